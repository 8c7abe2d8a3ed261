/-
  Texts joined.
-/
import Derived.Test.YtfhkmgcalcfibaaGreatTaw1
import Derived.Test.YtfhkmgcalcfibaaGreatProg
import Derived.KernelRfl
import Derived.Laws.MakeOwn
import Derived.Laws.Externs
import Derived.Lib.Overlaps
import Derived.Lib.BytesEntry
import Derived.MapKept
import Derived.Shelf.SlSortCmp.WholeK
import Derived.Shelf.SlSortCmp.NoneTotal
set_option linter.unusedVariables false
set_option linter.unusedSimpArgs false
namespace Go.Proofs.YtfhkmgcalcfibaaGreat
open Go.RowKit
open Go.Proofs.Tryz (prog)
variable {B S:List Nat}{P:Program}{R:Value->World->Prop}{W W0 w w':World}{a:Act}{af:Array Edge}{b cap i n n0 off sz:Nat}{c o x y:Operand}{cs cs' vs xs ys:List Value}{df:List Deferred}{done:Bool}{ent l:EN}{f:FuncId}{fn:Func}{fr:FN}{fz:Nat × Nat}{g:Option (Nat × Bool)}{k t t' ty:TypeId}{op:Op}{p:Prop}{pos:String}{ts:Array TypeId}{u v xv z:Value}
section
instance :TMix prog:=⟨Q7⟩
instance :TU prog 3 (TypeDesc.int IntKind.i64):=⟨Tryz.underlying3⟩
instance :TSz prog 3 1:=⟨Q7⟩
instance :TOne prog 3:=⟨Q7⟩
instance :ZcD prog 3 [.int .i64 0]:=⟨Q7⟩
instance :TOne prog 4:=⟨Q7⟩
instance :TU prog 5 (TypeDesc.int IntKind.u8):=⟨Tryz.underlying5⟩
instance :TSz prog 5 1:=⟨Q7⟩
instance :TOne prog 5:=⟨Q7⟩
instance :TU prog 22 (TypeDesc.slice 3):=⟨Tryz.underlying22⟩
instance :TOne prog 22:=⟨Q7⟩
instance :TU prog 41 (TypeDesc.int IntKind.u64):=⟨Tryz.underlying41⟩
instance :TSz prog 41 1:=⟨Q7⟩
instance :TOne prog 41:=⟨Q7⟩
instance :TU prog 42 (TypeDesc.int IntKind.u16):=⟨Tryz.underlying42⟩
instance :TSz prog 42 1:=⟨Q7⟩
instance :TOne prog 42:=⟨Q7⟩
instance :TU prog 43 (TypeDesc.slice 85):=⟨Tryz.underlying43⟩
instance :TSz prog 43 1:=⟨Q7⟩
instance :TOne prog 43:=⟨Q7⟩
instance :TNI prog 43:=⟨Q7⟩
instance :TU prog 44 (TypeDesc.slice 124):=⟨Tryz.underlying44⟩
instance :TSz prog 44 1:=⟨Q7⟩
instance :TOne prog 44:=⟨Q7⟩
instance :TNI prog 44:=⟨Q7⟩
instance :TU prog 45 (TypeDesc.slice 166):=⟨Tryz.underlying45⟩
instance :TSz prog 45 1:=⟨Q7⟩
instance :TOne prog 45:=⟨Q7⟩
instance :TNI prog 45:=⟨Q7⟩
instance :TU prog 46 (TypeDesc.slice 76):=⟨Tryz.underlying46⟩
instance :TSz prog 46 1:=⟨Q7⟩
instance :TOne prog 46:=⟨Q7⟩
instance :TNI prog 46:=⟨Q7⟩
instance :TU prog 47 (TypeDesc.slice 74):=⟨Tryz.underlying47⟩
instance :TSz prog 47 1:=⟨Q7⟩
instance :TOne prog 47:=⟨Q7⟩
instance :TNI prog 47:=⟨Q7⟩
instance :TU prog 48 (TypeDesc.slice 171):=⟨Tryz.underlying48⟩
instance :TSz prog 48 1:=⟨Q7⟩
instance :TOne prog 48:=⟨Q7⟩
instance :TNI prog 48:=⟨Q7⟩
instance :ZcD prog 48 [.slice none 0 0]:=⟨Q7⟩
instance :TU prog 49 (TypeDesc.slice 100):=⟨Tryz.underlying49⟩
instance :TSz prog 49 1:=⟨Q7⟩
instance :TOne prog 49:=⟨Q7⟩
instance :TNI prog 49:=⟨Q7⟩
instance :TAgg prog 51 2:=⟨Q7⟩
instance :TFld prog 51 0 0:=⟨Q7⟩
instance :TFld prog 51 1 1:=⟨Q7⟩
instance :TLay prog 51 [(0,1),(1,1)]:=⟨Q7⟩
instance :ZcD prog 51 [.slice none 0 0, .int .i64 0]:=⟨Q7⟩
instance :TAgg prog 53 14:=⟨Q7⟩
instance :TLay prog 53 [(0,1),(1,1),(2,1),(3,1),(4,1),(5,1),(6,1),(7,1),(8,1),(9,1),(10,1),(11,1),(12,2)]:=⟨Q7⟩
instance :ZcD prog 53 [.int .u64 0, .int .u16 0, .int .i64 0, .int .i64 0, .int .u16 0, .int .i64 0, .slice none 0 0, .slice none 0 0, .slice none 0 0, .slice none 0 0, .slice none 0 0, .slice none 0 0, .slice none 0 0, .int .i64 0]:=⟨Q7⟩
instance :TU prog 55 (TypeDesc.slice 61):=⟨Tryz.underlying55⟩
instance :TOne prog 55:=⟨Q7⟩
instance :TNI prog 55:=⟨Q7⟩
instance :TU prog 59 (TypeDesc.slice 69):=⟨Tryz.underlying59⟩
instance :TSz prog 59 1:=⟨Q7⟩
instance :TOne prog 59:=⟨Q7⟩
instance :TNI prog 59:=⟨Q7⟩
instance :TSz prog 61 2:=⟨Q7⟩
instance :TAgg prog 61 2:=⟨Q7⟩
instance :TLay prog 61 [(0,1),(1,1)]:=⟨Q7⟩
instance :TEl prog 61 2 32:=⟨Q7⟩
instance :ZcD prog 61 [.int .u64 0, .slice none 0 0]:=⟨Q7⟩
instance :TU prog 63 (TypeDesc.array 16 5):=⟨Tryz.underlying63⟩
instance :TAgg prog 63 16:=⟨Q7⟩
instance :TLay prog 63 [(0,1),(1,1),(2,1),(3,1),(4,1),(5,1),(6,1),(7,1),(8,1),(9,1),(10,1),(11,1),(12,1),(13,1),(14,1),(15,1)]:=⟨Q7⟩
instance :ZcD prog 63 [.int .u8 0, .int .u8 0, .int .u8 0, .int .u8 0, .int .u8 0, .int .u8 0, .int .u8 0, .int .u8 0, .int .u8 0, .int .u8 0, .int .u8 0, .int .u8 0, .int .u8 0, .int .u8 0, .int .u8 0, .int .u8 0]:=⟨Q7⟩
instance :TAgg prog 65 17:=⟨Q7⟩
instance :TFld prog 65 0 0:=⟨Q7⟩
instance :TFld prog 65 1 16:=⟨Q7⟩
instance :TLay prog 65 [(0,16),(16,1)]:=⟨Q7⟩
instance :TEq prog 65 [.i .u8, .i .u8, .i .u8, .i .u8, .i .u8, .i .u8, .i .u8, .i .u8, .i .u8, .i .u8, .i .u8, .i .u8, .i .u8, .i .u8, .i .u8, .i .u8, .i .i64]:=⟨Q7⟩
instance :ZcD prog 65 [.int .u8 0, .int .u8 0, .int .u8 0, .int .u8 0, .int .u8 0, .int .u8 0, .int .u8 0, .int .u8 0, .int .u8 0, .int .u8 0, .int .u8 0, .int .u8 0, .int .u8 0, .int .u8 0, .int .u8 0, .int .u8 0, .int .i64 0]:=⟨Q7⟩
instance :TSz prog 67 35:=⟨Q7⟩
instance :TAgg prog 67 35:=⟨Q7⟩
instance :TFld prog 67 0 0:=⟨Q7⟩
instance :TFld prog 67 1 17:=⟨Q7⟩
instance :TFld prog 67 2 34:=⟨Q7⟩
instance :TLay prog 67 [(0,17),(17,17),(34,1)]:=⟨Q7⟩
instance :TEl prog 67 35 56:=⟨Q7⟩
instance :TEq prog 67 [.i .u8, .i .u8, .i .u8, .i .u8, .i .u8, .i .u8, .i .u8, .i .u8, .i .u8, .i .u8, .i .u8, .i .u8, .i .u8, .i .u8, .i .u8, .i .u8, .i .i64, .i .u8, .i .u8, .i .u8, .i .u8, .i .u8, .i .u8, .i .u8, .i .u8, .i .u8, .i .u8, .i .u8, .i .u8, .i .u8, .i .u8, .i .u8, .i .u8, .i .i64, .i .u64]:=⟨Q7⟩
instance :ZcD prog 67 [.int .u8 0, .int .u8 0, .int .u8 0, .int .u8 0, .int .u8 0, .int .u8 0, .int .u8 0, .int .u8 0, .int .u8 0, .int .u8 0, .int .u8 0, .int .u8 0, .int .u8 0, .int .u8 0, .int .u8 0, .int .u8 0, .int .i64 0, .int .u8 0, .int .u8 0, .int .u8 0, .int .u8 0, .int .u8 0, .int .u8 0, .int .u8 0, .int .u8 0, .int .u8 0, .int .u8 0, .int .u8 0, .int .u8 0, .int .u8 0, .int .u8 0, .int .u8 0, .int .u8 0, .int .i64 0, .int .u64 0]:=⟨Q7⟩
instance :TSz prog 69 40:=⟨Q7⟩
instance :TAgg prog 69 40:=⟨Q7⟩
instance :TLay prog 69 [(0,1),(1,1),(2,1),(3,1),(4,35),(39,1)]:=⟨Q7⟩
instance :TEl prog 69 40 96:=⟨Q7⟩
instance :TEq prog 69 [.i .i64, .i .u16, .i .i64, .i .u64, .i .u8, .i .u8, .i .u8, .i .u8, .i .u8, .i .u8, .i .u8, .i .u8, .i .u8, .i .u8, .i .u8, .i .u8, .i .u8, .i .u8, .i .u8, .i .u8, .i .i64, .i .u8, .i .u8, .i .u8, .i .u8, .i .u8, .i .u8, .i .u8, .i .u8, .i .u8, .i .u8, .i .u8, .i .u8, .i .u8, .i .u8, .i .u8, .i .u8, .i .i64, .i .u64, .i .i64]:=⟨Q7⟩
instance :ZcD prog 69 [.int .i64 0, .int .u16 0, .int .i64 0, .int .u64 0, .int .u8 0, .int .u8 0, .int .u8 0, .int .u8 0, .int .u8 0, .int .u8 0, .int .u8 0, .int .u8 0, .int .u8 0, .int .u8 0, .int .u8 0, .int .u8 0, .int .u8 0, .int .u8 0, .int .u8 0, .int .u8 0, .int .i64 0, .int .u8 0, .int .u8 0, .int .u8 0, .int .u8 0, .int .u8 0, .int .u8 0, .int .u8 0, .int .u8 0, .int .u8 0, .int .u8 0, .int .u8 0, .int .u8 0, .int .u8 0, .int .u8 0, .int .u8 0, .int .u8 0, .int .i64 0, .int .u64 0, .int .i64 0]:=⟨Q7⟩
instance :TAgg prog 72 2:=⟨Q7⟩
instance :Zxg prog 72 0 0 42:=⟨Q7⟩
instance :TFld prog 72 0 0:=⟨Q7⟩
instance :Zxg prog 72 1 1 3:=⟨Q7⟩
instance :TFld prog 72 1 1:=⟨Q7⟩
instance :TLay prog 72 [(0,1),(1,1)]:=⟨Q7⟩
instance :TEq prog 72 [.i .u16, .i .i64]:=⟨Q7⟩
instance :ZcD prog 72 [.int .u16 0, .int .i64 0]:=⟨Q7⟩
instance :TSz prog 74 40:=⟨Q7⟩
instance :TAgg prog 74 40:=⟨Q7⟩
instance :TFld prog 74 0 0:=⟨Q7⟩
instance :TFld prog 74 1 35:=⟨Q7⟩
instance :TFld prog 74 2 36:=⟨Q7⟩
instance :TFld prog 74 3 38:=⟨Q7⟩
instance :TFld prog 74 4 39:=⟨Q7⟩
instance :TLay prog 74 [(0,35),(35,1),(36,2),(38,1),(39,1)]:=⟨Q7⟩
instance :TEl prog 74 40 96:=⟨Q7⟩
instance :TEq prog 74 [.i .u8, .i .u8, .i .u8, .i .u8, .i .u8, .i .u8, .i .u8, .i .u8, .i .u8, .i .u8, .i .u8, .i .u8, .i .u8, .i .u8, .i .u8, .i .u8, .i .i64, .i .u8, .i .u8, .i .u8, .i .u8, .i .u8, .i .u8, .i .u8, .i .u8, .i .u8, .i .u8, .i .u8, .i .u8, .i .u8, .i .u8, .i .u8, .i .u8, .i .i64, .i .u64, .i .u64, .i .u16, .i .i64, .i .i64, .i .i64]:=⟨Q7⟩
instance :ZcD prog 74 [.int .u8 0, .int .u8 0, .int .u8 0, .int .u8 0, .int .u8 0, .int .u8 0, .int .u8 0, .int .u8 0, .int .u8 0, .int .u8 0, .int .u8 0, .int .u8 0, .int .u8 0, .int .u8 0, .int .u8 0, .int .u8 0, .int .i64 0, .int .u8 0, .int .u8 0, .int .u8 0, .int .u8 0, .int .u8 0, .int .u8 0, .int .u8 0, .int .u8 0, .int .u8 0, .int .u8 0, .int .u8 0, .int .u8 0, .int .u8 0, .int .u8 0, .int .u8 0, .int .u8 0, .int .i64 0, .int .u64 0, .int .u64 0, .int .u16 0, .int .i64 0, .int .i64 0, .int .i64 0]:=⟨Q7⟩
instance :TSz prog 76 39:=⟨Q7⟩
instance :TAgg prog 76 39:=⟨Q7⟩
instance :TFld prog 76 0 0:=⟨Q7⟩
instance :TFld prog 76 1 35:=⟨Q7⟩
instance :TFld prog 76 2 36:=⟨Q7⟩
instance :TFld prog 76 3 38:=⟨Q7⟩
instance :TLay prog 76 [(0,35),(35,1),(36,2),(38,1)]:=⟨Q7⟩
instance :TEl prog 76 39 88:=⟨Q7⟩
instance :TEq prog 76 [.i .u8, .i .u8, .i .u8, .i .u8, .i .u8, .i .u8, .i .u8, .i .u8, .i .u8, .i .u8, .i .u8, .i .u8, .i .u8, .i .u8, .i .u8, .i .u8, .i .i64, .i .u8, .i .u8, .i .u8, .i .u8, .i .u8, .i .u8, .i .u8, .i .u8, .i .u8, .i .u8, .i .u8, .i .u8, .i .u8, .i .u8, .i .u8, .i .u8, .i .i64, .i .u64, .i .u64, .i .u16, .i .i64, .i .i64]:=⟨Q7⟩
instance :ZcD prog 76 [.int .u8 0, .int .u8 0, .int .u8 0, .int .u8 0, .int .u8 0, .int .u8 0, .int .u8 0, .int .u8 0, .int .u8 0, .int .u8 0, .int .u8 0, .int .u8 0, .int .u8 0, .int .u8 0, .int .u8 0, .int .u8 0, .int .i64 0, .int .u8 0, .int .u8 0, .int .u8 0, .int .u8 0, .int .u8 0, .int .u8 0, .int .u8 0, .int .u8 0, .int .u8 0, .int .u8 0, .int .u8 0, .int .u8 0, .int .u8 0, .int .u8 0, .int .u8 0, .int .u8 0, .int .i64 0, .int .u64 0, .int .u64 0, .int .u16 0, .int .i64 0, .int .i64 0]:=⟨Q7⟩
instance :TSz prog 85 34:=⟨Q7⟩
instance :TAgg prog 85 34:=⟨Q7⟩
instance :TLay prog 85 [(0,17),(17,17)]:=⟨Q7⟩
instance :TEl prog 85 34 48:=⟨Q7⟩
instance :TEq prog 85 [.i .u8, .i .u8, .i .u8, .i .u8, .i .u8, .i .u8, .i .u8, .i .u8, .i .u8, .i .u8, .i .u8, .i .u8, .i .u8, .i .u8, .i .u8, .i .u8, .i .i64, .i .u8, .i .u8, .i .u8, .i .u8, .i .u8, .i .u8, .i .u8, .i .u8, .i .u8, .i .u8, .i .u8, .i .u8, .i .u8, .i .u8, .i .u8, .i .u8, .i .i64]:=⟨Q7⟩
instance :ZcD prog 85 [.int .u8 0, .int .u8 0, .int .u8 0, .int .u8 0, .int .u8 0, .int .u8 0, .int .u8 0, .int .u8 0, .int .u8 0, .int .u8 0, .int .u8 0, .int .u8 0, .int .u8 0, .int .u8 0, .int .u8 0, .int .u8 0, .int .i64 0, .int .u8 0, .int .u8 0, .int .u8 0, .int .u8 0, .int .u8 0, .int .u8 0, .int .u8 0, .int .u8 0, .int .u8 0, .int .u8 0, .int .u8 0, .int .u8 0, .int .u8 0, .int .u8 0, .int .u8 0, .int .u8 0, .int .i64 0]:=⟨Q7⟩
instance :TU prog 94 (TypeDesc.slice 96):=⟨Tryz.underlying94⟩
instance :TNI prog 94:=⟨Q7⟩
instance :TSz prog 96 2:=⟨Q7⟩
instance :TAgg prog 96 2:=⟨Q7⟩
instance :TFld prog 96 0 0:=⟨Q7⟩
instance :TFld prog 96 1 1:=⟨Q7⟩
instance :TLay prog 96 [(0,1),(1,1)]:=⟨Q7⟩
instance :TEl prog 96 2 16:=⟨Q7⟩
instance :TEq prog 96 [.i .u64, .i .i64]:=⟨Q7⟩
instance :ZcD prog 96 [.int .u64 0, .int .i64 0]:=⟨Q7⟩
instance :TSz prog 100 37:=⟨Q7⟩
instance :TAgg prog 100 37:=⟨Q7⟩
instance :TFld prog 100 0 0:=⟨Q7⟩
instance :TFld prog 100 1 35:=⟨Q7⟩
instance :TLay prog 100 [(0,35),(35,2)]:=⟨Q7⟩
instance :TEl prog 100 37 72:=⟨Q7⟩
instance :TEq prog 100 [.i .u8, .i .u8, .i .u8, .i .u8, .i .u8, .i .u8, .i .u8, .i .u8, .i .u8, .i .u8, .i .u8, .i .u8, .i .u8, .i .u8, .i .u8, .i .u8, .i .i64, .i .u8, .i .u8, .i .u8, .i .u8, .i .u8, .i .u8, .i .u8, .i .u8, .i .u8, .i .u8, .i .u8, .i .u8, .i .u8, .i .u8, .i .u8, .i .u8, .i .i64, .i .u64, .i .u16, .i .i64]:=⟨Q7⟩
instance :ZcD prog 100 [.int .u8 0, .int .u8 0, .int .u8 0, .int .u8 0, .int .u8 0, .int .u8 0, .int .u8 0, .int .u8 0, .int .u8 0, .int .u8 0, .int .u8 0, .int .u8 0, .int .u8 0, .int .u8 0, .int .u8 0, .int .u8 0, .int .i64 0, .int .u8 0, .int .u8 0, .int .u8 0, .int .u8 0, .int .u8 0, .int .u8 0, .int .u8 0, .int .u8 0, .int .u8 0, .int .u8 0, .int .u8 0, .int .u8 0, .int .u8 0, .int .u8 0, .int .u8 0, .int .u8 0, .int .i64 0, .int .u64 0, .int .u16 0, .int .i64 0]:=⟨Q7⟩
instance :TFld prog 113 0 0:=⟨Q7⟩
instance :TFld prog 113 1 1:=⟨Q7⟩
instance :TLay prog 113 [(0,1),(1,1)]:=⟨Q7⟩
instance :ZcD prog 113 [.slice none 0 0, .int .i64 0]:=⟨Q7⟩
instance :TAgg prog 122 5:=⟨Q7⟩
instance :TLay prog 122 [(0,1),(1,1),(2,1),(3,1),(4,1)]:=⟨Q7⟩
instance :TEq prog 122 [.b, .i .u8, .i .i64, .i .u16, .i .i64]:=⟨Q7⟩
instance :ZcD prog 122 [.bool false, .int .u8 0, .int .i64 0, .int .u16 0, .int .i64 0]:=⟨Q7⟩
instance :TSz prog 124 8:=⟨Q7⟩
instance :TAgg prog 124 8:=⟨Q7⟩
instance :TLay prog 124 [(0,1),(1,5),(6,1),(7,1)]:=⟨Q7⟩
instance :TEl prog 124 8 56:=⟨Q7⟩
instance :TEq prog 124 [.i .u64, .b, .i .u8, .i .i64, .i .u16, .i .i64, .i .i64, .i .i64]:=⟨Q7⟩
instance :ZcD prog 124 [.int .u64 0, .bool false, .int .u8 0, .int .i64 0, .int .u16 0, .int .i64 0, .int .i64 0, .int .i64 0]:=⟨Q7⟩
instance :TLay prog 142 [(0,14),(14,1),(15,1),(16,1),(17,1)]:=⟨Q7⟩
instance :ZcD prog 142 [.int .u64 0, .int .u16 0, .int .i64 0, .int .i64 0, .int .u16 0, .int .i64 0, .slice none 0 0, .slice none 0 0, .slice none 0 0, .slice none 0 0, .slice none 0 0, .slice none 0 0, .slice none 0 0, .int .i64 0, .int .i64 0, .int .u64 0, .slice none 0 0, .slice none 0 0]:=⟨Q7⟩
instance :TSz prog 166 38:=⟨Q7⟩
instance :TAgg prog 166 38:=⟨Q7⟩
instance :TFld prog 166 0 0:=⟨Q7⟩
instance :TFld prog 166 1 35:=⟨Q7⟩
instance :TFld prog 166 2 37:=⟨Q7⟩
instance :TLay prog 166 [(0,35),(35,2),(37,1)]:=⟨Q7⟩
instance :TEl prog 166 38 80:=⟨Q7⟩
instance :TEq prog 166 [.i .u8, .i .u8, .i .u8, .i .u8, .i .u8, .i .u8, .i .u8, .i .u8, .i .u8, .i .u8, .i .u8, .i .u8, .i .u8, .i .u8, .i .u8, .i .u8, .i .i64, .i .u8, .i .u8, .i .u8, .i .u8, .i .u8, .i .u8, .i .u8, .i .u8, .i .u8, .i .u8, .i .u8, .i .u8, .i .u8, .i .u8, .i .u8, .i .u8, .i .i64, .i .u64, .i .u16, .i .i64, .i .i64]:=⟨Q7⟩
instance :ZcD prog 166 [.int .u8 0, .int .u8 0, .int .u8 0, .int .u8 0, .int .u8 0, .int .u8 0, .int .u8 0, .int .u8 0, .int .u8 0, .int .u8 0, .int .u8 0, .int .u8 0, .int .u8 0, .int .u8 0, .int .u8 0, .int .u8 0, .int .i64 0, .int .u8 0, .int .u8 0, .int .u8 0, .int .u8 0, .int .u8 0, .int .u8 0, .int .u8 0, .int .u8 0, .int .u8 0, .int .u8 0, .int .u8 0, .int .u8 0, .int .u8 0, .int .u8 0, .int .u8 0, .int .u8 0, .int .i64 0, .int .u64 0, .int .u16 0, .int .i64 0, .int .i64 0]:=⟨Q7⟩
instance :TSz prog 171 40:=⟨Q7⟩
instance :TAgg prog 171 40:=⟨Q7⟩
instance :TLay prog 171 [(0,35),(35,1),(36,1),(37,1),(38,1),(39,1)]:=⟨Q7⟩
instance :TEl prog 171 40 96:=⟨Q7⟩
instance :TEq prog 171 [.i .u8, .i .u8, .i .u8, .i .u8, .i .u8, .i .u8, .i .u8, .i .u8, .i .u8, .i .u8, .i .u8, .i .u8, .i .u8, .i .u8, .i .u8, .i .u8, .i .i64, .i .u8, .i .u8, .i .u8, .i .u8, .i .u8, .i .u8, .i .u8, .i .u8, .i .u8, .i .u8, .i .u8, .i .u8, .i .u8, .i .u8, .i .u8, .i .u8, .i .i64, .i .u64, .i .u16, .i .i64, .i .u64, .i .i64, .i .i64]:=⟨Q7⟩
instance :ZcD prog 171 [.int .u8 0, .int .u8 0, .int .u8 0, .int .u8 0, .int .u8 0, .int .u8 0, .int .u8 0, .int .u8 0, .int .u8 0, .int .u8 0, .int .u8 0, .int .u8 0, .int .u8 0, .int .u8 0, .int .u8 0, .int .u8 0, .int .i64 0, .int .u8 0, .int .u8 0, .int .u8 0, .int .u8 0, .int .u8 0, .int .u8 0, .int .u8 0, .int .u8 0, .int .u8 0, .int .u8 0, .int .u8 0, .int .u8 0, .int .u8 0, .int .u8 0, .int .u8 0, .int .u8 0, .int .i64 0, .int .u64 0, .int .u16 0, .int .i64 0, .int .u64 0, .int .i64 0, .int .i64 0]:=⟨Q7⟩
instance :TU prog 185 (TypeDesc.int IntKind.u64):=⟨Tryz.underlying185⟩
instance :TU prog 216 (TypeDesc.slice 67):=⟨Tryz.underlying216⟩
instance :TNI prog 216:=⟨Q7⟩
instance :TU prog 257 (TypeDesc.int IntKind.i16):=⟨Tryz.underlying257⟩
instance :TU prog 265 (TypeDesc.map 41 3):=⟨Tryz.underlying265⟩
instance :TU prog 267 (TypeDesc.map 41 72):=⟨Tryz.underlying267⟩
instance :TU prog 272 (TypeDesc.map 67 4):=⟨Tryz.underlying272⟩
instance :TU prog 275 (TypeDesc.map 67 72):=⟨Tryz.underlying275⟩
instance :TAgg prog 310 3:=⟨Q7⟩
instance :TFld prog 310 0 0:=⟨Q7⟩
instance :TFld prog 310 1 1:=⟨Q7⟩
instance :TFld prog 310 2 2:=⟨Q7⟩
instance :TLay prog 310 [(0,1),(1,1),(2,1)]:=⟨Q7⟩
instance :ZcD prog 310 [.int .u64 0, .int .i64 0, .int .i64 0]:=⟨Q7⟩
instance :Zad prog 11:=⟨Q7⟩
instance :Zad prog 14:=⟨Q7⟩
instance :Zad prog 18:=⟨Q7⟩
instance :Zad prog 20:=⟨Q7⟩
instance :Zad prog 21:=⟨Q7⟩
instance :Zad prog 22:=⟨Q7⟩
instance :Zad prog 23:=⟨Q7⟩
instance :Zad prog 25:=⟨Q7⟩
instance :Zad prog 27:=⟨Q7⟩
instance :Zad prog 28:=⟨Q7⟩
instance :Zad prog 29:=⟨Q7⟩
instance :Zad prog 30:=⟨Q7⟩
instance :Zad prog 32:=⟨Q7⟩
instance :Zad prog 33:=⟨Q7⟩
instance :Zad prog 34:=⟨Q7⟩
instance :Zad prog 35:=⟨Q7⟩
instance :Zad prog 36:=⟨Q7⟩
instance :Zad prog 40:=⟨Q7⟩
instance :Zad prog 42:=⟨Q7⟩
instance :Zad prog 43:=⟨Q7⟩
instance :Zad prog 44:=⟨Q7⟩
instance :Zad prog 46:=⟨Q7⟩
instance :Zad prog 55:=⟨Q7⟩
instance :Zad prog 56:=⟨Q7⟩
instance :Zad prog 57:=⟨Q7⟩
instance :Zad prog 58:=⟨Q7⟩
instance :Zad prog 59:=⟨Q7⟩
instance :Zad prog 60:=⟨Q7⟩
instance :Zad prog 61:=⟨Q7⟩
instance :Zad prog 62:=⟨Q7⟩
instance :Zad prog 63:=⟨Q7⟩
instance :Zad prog 64:=⟨Q7⟩
instance :Zad prog 65:=⟨Q7⟩
instance :Zad prog 66:=⟨Q7⟩
instance :Zad prog 67:=⟨Q7⟩
instance :Zad prog 68:=⟨Q7⟩
instance :Zad prog 69:=⟨Q7⟩
instance :Zad prog 70:=⟨Q7⟩
instance :Zad prog 71:=⟨Q7⟩
instance :Zad prog 72:=⟨Q7⟩
instance :Zad prog 73:=⟨Q7⟩
instance :Zad prog 74:=⟨Q7⟩
instance :Zad prog 75:=⟨Q7⟩
instance :Zad prog 76:=⟨Q7⟩
instance :Zad prog 82:=⟨Q7⟩
instance :Zad prog 83:=⟨Q7⟩
instance :Zad prog 84:=⟨Q7⟩
instance :Zad prog 87:=⟨Q7⟩
instance :Zad prog 88:=⟨Q7⟩
instance :Zad prog 90:=⟨Q7⟩
instance :Zad prog 91:=⟨Q7⟩
instance :Zad prog 92:=⟨Q7⟩
instance :Zad prog 93:=⟨Q7⟩
instance :Zad prog 94:=⟨Q7⟩
instance :Zad prog 95:=⟨Q7⟩
instance :Zad prog 96:=⟨Q7⟩
instance :Zad prog 97:=⟨Q7⟩
instance :Zad prog 98:=⟨Q7⟩
instance :Zad prog 99:=⟨Q7⟩
instance :Zad prog 100:=⟨Q7⟩
instance :Zad prog 101:=⟨Q7⟩
instance :Zad prog 102:=⟨Q7⟩
instance :Zad prog 103:=⟨Q7⟩
instance :Zad prog 104:=⟨Q7⟩
instance :Zad prog 105:=⟨Q7⟩
instance :Zad prog 106:=⟨Q7⟩
instance :Zad prog 107:=⟨Q7⟩
instance :Zad prog 108:=⟨Q7⟩
instance :Zad prog 109:=⟨Q7⟩
instance :Zad prog 110:=⟨Q7⟩
instance :Zad prog 111:=⟨Q7⟩
instance :Zad prog 112:=⟨Q7⟩
instance :Zad prog 113:=⟨Q7⟩
instance :Zad prog 114:=⟨Q7⟩
instance :Zad prog 115:=⟨Q7⟩
instance :Zad prog 116:=⟨Q7⟩
instance :Zad prog 117:=⟨Q7⟩
instance :Zad prog 118:=⟨Q7⟩
instance :Zad prog 119:=⟨Q7⟩
instance :Zad prog 120:=⟨Q7⟩
instance :Zad prog 121:=⟨Q7⟩
instance :Zad prog 122:=⟨Q7⟩
instance :Zad prog 123:=⟨Q7⟩
instance :Zad prog 125:=⟨Q7⟩
instance :Zad prog 131:=⟨Q7⟩
instance :Zad prog 137:=⟨Q7⟩
instance :Zad prog 139:=⟨Q7⟩
instance :Zad prog 140:=⟨Q7⟩
instance :Zad prog 141:=⟨Q7⟩
instance :Zad prog 142:=⟨Q7⟩
instance :Zad prog 143:=⟨Q7⟩
instance :Zad prog 144:=⟨Q7⟩
instance :Zad prog 145:=⟨Q7⟩
instance :Zad prog 146:=⟨Q7⟩
instance :Zad prog 147:=⟨Q7⟩
instance :Zad prog 148:=⟨Q7⟩
instance :Zad prog 149:=⟨Q7⟩
instance :Zad prog 150:=⟨Q7⟩
instance :Zad prog 151:=⟨Q7⟩
instance :Zad prog 152:=⟨Q7⟩
instance :Zad prog 153:=⟨Q7⟩
instance :Zad prog 154:=⟨Q7⟩
instance :Zad prog 155:=⟨Q7⟩
instance :Zad prog 156:=⟨Q7⟩
instance :Zad prog 157:=⟨Q7⟩
instance :Zad prog 158:=⟨Q7⟩
instance :Zad prog 159:=⟨Q7⟩
instance :Zad prog 160:=⟨Q7⟩
instance :Zad prog 161:=⟨Q7⟩
instance :Zad prog 162:=⟨Q7⟩
instance :Zad prog 163:=⟨Q7⟩
instance :Zad prog 164:=⟨Q7⟩
instance :Zad prog 165:=⟨Q7⟩
instance :Zad prog 166:=⟨Q7⟩
instance :Zad prog 167:=⟨Q7⟩
instance :Zad prog 168:=⟨Q7⟩
instance :Zad prog 169:=⟨Q7⟩
instance :Zad prog 170:=⟨Q7⟩
instance :Zad prog 178:=⟨Q7⟩
instance :Zad prog 179:=⟨Q7⟩
instance :Zad prog 182:=⟨Q7⟩
instance :Zad prog 183:=⟨Q7⟩
instance :Zad prog 184:=⟨Q7⟩
instance :Zad prog 185:=⟨Q7⟩
instance :Zad prog 186:=⟨Q7⟩
instance :Zad prog 187:=⟨Q7⟩
instance :Zad prog 188:=⟨Q7⟩
instance :Zad prog 189:=⟨Q7⟩
instance :Zad prog 190:=⟨Q7⟩
instance :Zad prog 191:=⟨Q7⟩
instance :Zad prog 192:=⟨Q7⟩
instance :Zad prog 193:=⟨Q7⟩
instance :Zad prog 194:=⟨Q7⟩
instance :Zad prog 195:=⟨Q7⟩
instance :Zad prog 196:=⟨Q7⟩
instance :Zad prog 197:=⟨Q7⟩
instance :Zad prog 198:=⟨Q7⟩
instance :Zad prog 199:=⟨Q7⟩
instance :Zad prog 200:=⟨Q7⟩
instance :Zad prog 201:=⟨Q7⟩
instance :Zad prog 202:=⟨Q7⟩
instance :Zad prog 203:=⟨Q7⟩
instance :Zad prog 204:=⟨Q7⟩
instance :Zad prog 205:=⟨Q7⟩
instance :Zad prog 206:=⟨Q7⟩
instance :Zad prog 207:=⟨Q7⟩
instance :Zad prog 208:=⟨Q7⟩
instance :Zad prog 209:=⟨Q7⟩
instance :Zad prog 210:=⟨Q7⟩
instance :Zad prog 211:=⟨Q7⟩
instance :Zad prog 212:=⟨Q7⟩
instance :Zad prog 213:=⟨Q7⟩
instance :Zad prog 214:=⟨Q7⟩
instance :Zad prog 223:=⟨Q7⟩
instance :Zad prog 224:=⟨Q7⟩
instance :Zad prog 225:=⟨Q7⟩
instance :Zad prog 227:=⟨Q7⟩
instance :Zad prog 228:=⟨Q7⟩
instance :Zad prog 229:=⟨Q7⟩
instance :Zad prog 230:=⟨Q7⟩
instance :Zad prog 231:=⟨Q7⟩
instance :Zad prog 232:=⟨Q7⟩
instance :Zad prog 233:=⟨Q7⟩
instance :Zad prog 234:=⟨Q7⟩
instance :Zad prog 235:=⟨Q7⟩
instance :Zad prog 236:=⟨Q7⟩
instance :Zad prog 237:=⟨Q7⟩
instance :Zad prog 238:=⟨Q7⟩
instance :Zad prog 239:=⟨Q7⟩
instance :Zad prog 240:=⟨Q7⟩
instance :Zad prog 241:=⟨Q7⟩
instance :Zad prog 242:=⟨Q7⟩
instance :Zad prog 243:=⟨Q7⟩
instance :Zad prog 244:=⟨Q7⟩
instance :Zad prog 245:=⟨Q7⟩
instance :Zad prog 246:=⟨Q7⟩
instance :Zad prog 247:=⟨Q7⟩
instance :Zad prog 248:=⟨Q7⟩
instance :Zad prog 249:=⟨Q7⟩
instance :Zad prog 250:=⟨Q7⟩
instance :Zad prog 251:=⟨Q7⟩
instance :Zad prog 252:=⟨Q7⟩
instance :Zad prog 253:=⟨Q7⟩
instance :Zad prog 254:=⟨Q7⟩
instance :Zad prog 255:=⟨Q7⟩
instance :Zad prog 256:=⟨Q7⟩
instance :Zad prog 280:=⟨Q7⟩
instance :Zad prog 281:=⟨Q7⟩
instance :Zad prog 282:=⟨Q7⟩
instance :Zad prog 283:=⟨Q7⟩
instance :Zad prog 285:=⟨Q7⟩
instance :Zad prog 286:=⟨Q7⟩
instance :Zad prog 287:=⟨Q7⟩
instance :Zad prog 288:=⟨Q7⟩
instance :Zad prog 289:=⟨Q7⟩
instance :Zad prog 290:=⟨Q7⟩
instance :Zad prog 291:=⟨Q7⟩
instance :Zad prog 292:=⟨Q7⟩
instance :Zad prog 295:=⟨Q7⟩
instance :Zad prog 296:=⟨Q7⟩
instance :Zad prog 297:=⟨Q7⟩
instance :Zad prog 298:=⟨Q7⟩
instance :Zad prog 299:=⟨Q7⟩
instance :Zad prog 300:=⟨Q7⟩
instance :Zad prog 301:=⟨Q7⟩
instance :Zad prog 302:=⟨Q7⟩
instance :Zad prog 303:=⟨Q7⟩
instance :Zad prog 304:=⟨Q7⟩
instance :Zad prog 305:=⟨Q7⟩
instance :Zad prog 306:=⟨Q7⟩
instance :Zad prog 309:=⟨Q7⟩
instance :Zad prog 310:=⟨Q7⟩
instance :Zad prog 311:=⟨Q7⟩
instance :Zad prog 312:=⟨Q7⟩
instance :Zad prog 334:=⟨Q7⟩
instance :Zad prog 335:=⟨Q7⟩
instance :Zad prog 336:=⟨Q7⟩
instance :Zad prog 337:=⟨Q7⟩
instance :Zad prog 339:=⟨Q7⟩
instance :Zad prog 340:=⟨Q7⟩
instance :Zad prog 341:=⟨Q7⟩
instance :Zad prog 342:=⟨Q7⟩
instance :Zad prog 344:=⟨Q7⟩
instance :Zad prog 345:=⟨Q7⟩
instance :Zad prog 355:=⟨Q7⟩
end
section
theorem Cal.to{args:Array Value}{v v':Value}{E:World->Prop}(h:Cal P f args w λx w'=>x=v/\E w')(e:v=v'):Cal P f args w λx w'=>x=v'/\E w':=e▸h
theorem Zat(h:xs.length=ys.length):put xs 0 ys=some ys:=by
 rw[ZiY _ _ _ Q0]
 simp[ZbD,<-h]
theorem Mem.came(M:Mem S W w l)(hw:w=W){o:Obj}(hb:W.heap[b]? =some o)(hS:b∈S)(hn:∀p∈l,p.1≠b):Mem S W w ((b,o)::l):=
 M.cons (by rw[hw];exact hb) hn (.inl hS)
theorem Mem.back(M:Mem S W w l)(h:∀k∈S,∃o,Has l k o/\W.heap[k]? =some o):Ext [] W w:=
 ⟨M.ext.os,M.ext.tape,M.ext.output,M.ext.size,M.ext.dr,λk hk _=>by
  by_cases hS:k∈S
  ·obtain⟨o,h1,h2⟩:=h k hS
   rw[M.heap h1,h2]
  ·exact M.ext.block k hk hS⟩
theorem Mem.back1{o:Obj}(M:Mem [b] W w l)(h:Has l b o)(hW:W.heap[b]? =some o):Ext [] W w:=
 M.back λk hk=>by simp only[List.mem_singleton] at hk;subst hk;exact⟨o,h,hW⟩
section
variable {P:Program} {ρ:Operand->Value} {w W0:World} {S:List Nat} {l l':EN} {R:Value->World->Prop} {d:Option Tmp} {ty:TypeId} {pos:String} {af:Array Edge} {g:Option (Nat×Bool)}
theorem Zse{dT sT e:TypeId}{sz b o dLen dCap n:Nat}{sLen:Nat}(hst:P.underlying dT=some (.slice e))(hsz:ZkH P e sz=true)(M:Mem S W0 w l)(hlen:(Builtin.lenOf xv).run P w= .ok sLen w)(hn:n=Nat.min sLen dLen)
  (hc:(Builtin.firstCells sz n xv).run P w= .ok ys.toArray w) (h1:∀v∈ys,v.oneCell'=true) (hb:Has l b (.cells cs.toArray t' (0,0))) (hp:put cs o ys=some cs') (hu:Upd l b (.cells cs.toArray t' (0,0)) (.cells cs'.toArray t' (0,0)) l') (tyy:TypeId):
  ∃w',(Builtin.copy_ #[dT,sT] tyy #[.slice (some ⟨b,o,none⟩) dLen dCap,xv]).run P w= .ok (.int .i64 n) w'/\Mem S W0 w' l'/\Ext [b] w w':=by
 obtain⟨hle,rfl⟩:=ZcZ _ _ _ _ hp
 obtain⟨w',hr,he,hh⟩:=Zb5 (P:=P) (off:=o) ys 0 cs w (M.heap hb) (by simpa using hle) h1
 refine⟨w',?_,M.turned hu he (by simpa using hh),he⟩
 subst hn
 simp[Builtin.copy_,run_underlying hst,hlen,run_sizeOf hsz,hc,hr,goInt]
theorem Zi6{dT sT e:TypeId}{sz b o dLen dCap b' o' sLen sCap n:Nat}{cs cs' ds ys:List Value}{t' t'':TypeId} [hst:TU P dT (.slice e)] [hsz:TSz P e sz](M:Mem S W0 w l)(hx:ρ x= .slice (some ⟨b,o,none⟩) dLen dCap)(hy:ρ y= .slice (some ⟨b',o',none⟩) sLen sCap)(hn:n=Nat.min sLen dLen)
  (hs:Has l b' (.cells ds.toArray t'' fz)) (hv:seg ds o' (n*sz)=some ys) (h1:ys.all (·.oneCell')=true) (hb:Has l b (.cells cs.toArray t' (0,0))) (hp:put cs o ys=some cs') (hu:Upd l b (.cells cs.toArray t' (0,0)) (.cells cs'.toArray t' (0,0)) l')
  (h:∀w',Mem S W0 w' l'->R (.int .i64 n) w'):OpTo P ⟨d, .call ⟨.builtin .copy, #[x,y], #[dT,sT]⟩,ty,pos,af,g⟩ ρ w R:=by
 have hsrc:=(Zcc.cells' (P:=P) (m:=n) (c:=sCap) (sz:=sz) (M.heap hs) hv h1).cells w.drawn
 have hc:(Builtin.firstCells sz n (.slice (some ⟨b',o',none⟩) sLen sCap)).run P w= .ok ys.toArray w:=by
  simpa[Builtin.firstCells] using hsrc
 obtain⟨w',hr,M',_⟩:=Zse (sT:=sT) (dLen:=dLen) (dCap:=dCap) (o:=o) hst.h hsz.h M (by simp[Builtin.lenOf]) hn hc (λv hv=>List.all_eq_true.1 h1 v hv) hb hp hu ty
 exact OpTo.val (v:= .int .i64 n) (w':=w') (by simp[execOp,resolve,invoke,builtin,hx,hy,hr]) (h _ M')
end
section
variable {P:Program} {ρ:Operand->Value} {w W0:World} {S:List Nat} {l l':EN} {R:Value->World->Prop} {d:Option Tmp} {ty:TypeId} {pos:String} {af:Array Edge} {g:Option (Nat×Bool)}
theorem ZjS [hs:TAgg P t n](hx:ρ x=Zcz b)(hy:ρ y= .agg vs.toArray)(hn:vs.length=n)(h1:vs.all (·.oneCell')=true)(hz:w.heap[b]? =some (.cells cs.toArray t' (0,0)))(hp:put cs 0 vs=some cs'):
  OpTo P ⟨d, .store t x y,ty,pos,af,g⟩ ρ w λ_ w'=>Ext [b] w w'/\w'.heap[b]? =some (.cells cs'.toArray t' (0,0)):=by
 obtain⟨hle,rfl⟩:=ZcZ _ _ _ _ hp
 obtain⟨w',hr,he,hh⟩:=Zb5 (P:=P) (off:=0) vs 0 cs w hz (by simpa using hle) (λv hv=>List.all_eq_true.1 h1 v hv)
 refine OpTo.skip (w':=w') ?_ ⟨he,by simpa using hh⟩
 simp only[execOp,Instr.storeAt,Instr.sureAddr,hx,hy,Zcz,storeVar,Sem.run_bind,Sem.run_pure,Result.andThen_ok,Zdv hs.h,Value.cells]
 simp[hr,hn]
theorem Zqq{ks:List LK} [ht:TEq P t ks](hx:ρ x= .agg xs.toArray)(hy:ρ y= .agg ys.toArray)(fx:ZaZ ks xs=true)(fy:ZaZ ks ys=true)(he:eqVs xs ys=true)(h:R (.bool true) w):OpTo P ⟨d, .binOp .eql t x y t',ty,pos,af,g⟩ ρ w R:=Zi5 hx hy fx fy (by rw[he];exact h)
theorem Zqr{ks:List LK} [ht:TEq P t ks](hx:ρ x= .agg xs.toArray)(hy:ρ y= .agg ys.toArray)(fx:ZaZ ks xs=true)(fy:ZaZ ks ys=true)(he:eqVs xs ys=false)(h:R (.bool false) w):OpTo P ⟨d, .binOp .eql t x y t',ty,pos,af,g⟩ ρ w R:=Zi5 hx hy fx fy (by rw[he];exact h)
theorem ZvW{ks:List LK} [ht:TEq P t ks](hx:ρ x= .agg xs.toArray)(hy:ρ y= .agg ys.toArray)(fx:ZaZ ks xs=true)(fy:ZaZ ks ys=true)(he:eqVs xs ys=false)(h:R (.bool true) w):OpTo P ⟨d, .binOp .neq t x y t',ty,pos,af,g⟩ ρ w R:=Znv hx hy fx fy (by rw[he];exact h)
theorem ZvX{ks:List LK} [ht:TEq P t ks](hx:ρ x= .agg xs.toArray)(hy:ρ y= .agg ys.toArray)(fx:ZaZ ks xs=true)(fy:ZaZ ks ys=true)(he:eqVs xs ys=true)(h:R (.bool false) w):OpTo P ⟨d, .binOp .neq t x y t',ty,pos,af,g⟩ ρ w R:=Znv hx hy fx fy (by rw[he];exact h)
end
theorem Zoj:∀(cs:List Value)(off n:Nat),seg cs off n=if off+n<=cs.length then some ((cs.drop off).take n) else none
 |[],0,0=>by simp[seg]
 |[],0,n+1=>by simp[seg]
 |[],off+1,n=>by simp[seg]
 |x::xs,0,0=>by simp[seg]
 |x::xs,0,n+1=>by
  rw[seg,Zoj xs 0 n]
  by_cases h:n<=xs.length
  ·rw[if_pos Q0,if_pos (by simp;omega)];simp
  ·rw[if_neg Q0,if_neg (by simp;omega)]
 |x::xs,off+1,n=>by
  rw[seg,Zoj xs off n]
  by_cases h:off+n<=xs.length
  ·rw[if_pos h,if_pos (by simp;omega)];simp
  ·rw[if_neg h,if_neg (by simp;omega)]
theorem Zbe{cs ys zs:List Value}{o n off k q:Nat}(h:seg cs o n=some ys)(h2:seg ys off k=some zs)(hq:q=o+off):seg cs q k=some zs:=by
 subst hq
 rw[Zoj] at*
 split at h
 ·rename_i h1
  simp only[Option.some.injEq] at h
  subst h
  split at h2
  ·rename_i h3
   simp only[List.length_take,List.length_drop] at h3
   simp only[Option.some.injEq] at h2
   subst h2
   rw[if_pos Q0]
   congr 1
   rw[List.drop_take,List.take_take,List.drop_drop]
   congr 1
   omega
  ·cases h2
 ·cases h
theorem Zcr{o n off q:Nat}(h:seg cs o n=some ys)(h2:nth ys off=some v)(hq:q=o+off):nth cs q=some v:=by
 subst hq
 obtain⟨h3,h4⟩:=Zed _ _ _ _ h
 rw[Zcl] at*
 have hlt:off<n:=by rw[<-h3];exact(List.getElem?_eq_some_iff.1 h2).1
 rw[h4 off hlt,h2]
theorem ZbH{k:Nat}(h:xs.length=k):seg xs 0 k=some xs:=by
 rw[Zoj,if_pos Q0];simp[<-h]
def encL{α:Type}(enc:α->List Value)(ls:List α):List Value:=ls.flatMap enc
theorem Zto{α:Type}(enc:α->List Value):encL enc []=[]:=rfl
theorem ZbC{α:Type}(enc:α->List Value)(xs ys:List α):encL enc (xs++ys)=encL enc xs++encL enc ys:=by simp[encL]
theorem Zcf{α:Type}(enc:α->List Value)(x:α)(ys:List α):encL enc (x::ys)=enc x++encL enc ys:=by simp[encL]
theorem Zdd{α:Type}(enc:α->List Value)(x:α):encL enc [x]=enc x:=by simp[encL]
theorem Za2{α:Type}{enc:α->List Value}{sz:Nat}{ls:List α}(h:∀x∈ls,(enc x).length=sz):(encL enc ls).length=ls.length*sz:=by
 induction ls with
 |nil=>simp[encL]
 |cons x ls ih=>
  rw[Zcf,List.length_append,h x Q5,ih λy hy=>h y (by simp[hy]),List.length_cons,Nat.add_mul];omega
theorem ZgD{α:Type}{enc:α->List Value}{ls:List α}(h:∀x∈ls,(enc x).length=sz)(i:Nat):(encL enc ls).take (i*sz)=encL enc (ls.take i):=by
 rcases Nat.lt_or_ge i ls.length with hi|hi
 ·conv=>lhs;rw[<-List.take_append_drop i ls,ZbC]
  have:=Za2 (ls:=ls.take i) (sz:=sz) (enc:=enc) λx hx=>h x (List.mem_of_mem_take hx)
  rw[List.length_take,Nat.min_eq_left Q0] at this
  rw[<-this,List.take_left']
  rfl
 ·rw[List.take_of_length_le hi,List.take_of_length_le]
  rw[Za2 h];exact Nat.mul_le_mul_right _ hi
theorem Ziv{α:Type}{enc:α->List Value}{ls:List α}(h:∀x∈ls,(enc x).length=sz)(i:Nat):(encL enc ls).drop (i*sz)=encL enc (ls.drop i):=by
 have h1:=List.take_append_drop (i*sz) (encL enc ls)
 have h2:encL enc (ls.take i)++encL enc (ls.drop i)=encL enc ls:=by rw[<-ZbC,List.take_append_drop]
 rw[ZgD h] at h1
 exact List.append_cancel_left (h1.trans h2.symm)
theorem Ze2{α:Type}{enc:α->List Value}{ls:List α}(h:∀x∈ls,(enc x).all (·.oneCell')=true):(encL enc ls).all (·.oneCell')=true:=by
 simp only[encL,List.all_eq_true,List.mem_flatMap] at*
 rintro v ⟨x,hx,hv⟩
 exact h x hx v hv
theorem Zal{α:Type}{enc:α->List Value}{ls:List α}(hsz:∀x∈ls,(enc x).length=sz){o n:Nat}(h:seg cs o (n*sz)=some (encL enc ls))(hi:i<ls.length){q:Nat}(hq:q=o+i*sz):seg cs q sz=some (enc ls[i]):=by
 refine Zbe h ?_ hq
 have hl:=Za2 hsz
 have hi':i*sz+sz<=ls.length*sz:=by rw[<-Nat.succ_mul];exact Nat.mul_le_mul_right _ hi
 rw[Zoj,if_pos Q0,Ziv hsz,List.drop_eq_getElem_cons hi,Zcf]
 congr 1
 rw[<-hsz ls[i] (List.getElem_mem hi),List.take_left']
 rfl
def SlAt(W:World)(sz:Nat)(v:Value)(n:Nat)(xs:List Value):Prop:=
 ∃p cap,v= .slice p n cap/\n<=cap/\(∀a:Addr,p=some a->True)/\xs.length=n*sz/\(0<n->∃b o cs t fz,p=some ⟨b,o,none⟩/\W.heap[b]? =some (.cells (List.toArray cs) t fz)/\seg cs o (n*sz)=some xs)
theorem SlAt.later(h:SlAt W sz v n xs)(E:Ext [] W w):SlAt w sz v n xs:=by
 obtain⟨p,cap,h1,h2,h3,h4,h5⟩:=h
 refine⟨p,cap,h1,h2,h3,h4,λhn=>?_⟩
 obtain⟨b,o,cs,t,fz,h6,h7,h8⟩:=h5 hn
 exact⟨b,o,cs,t,fz,h6,by rw[E.block b (Array.getElem?_eq_some_iff.1 h7).1 Q5];exact h7,h8⟩
theorem Qw(E:Ext [] W w)(h:SlAt W sz v n xs:=by assumption):SlAt w sz v n xs:=h.later E
theorem SlAt.nil(W:World)(sz:Nat):SlAt W sz (.slice none 0 0) 0 []:=⟨none,0,rfl,Nat.le_refl _,by simp,by simp,λh=>absurd h Q0⟩
theorem OwnS.slAt{e:TypeId}(h:OwnS e sz v n xs ent)(M:Mem S W0 w l)(hs:∀p∈ent,p∈l):SlAt w sz v n xs:=by
 rcases h with⟨rfl,rfl,rfl,rfl⟩|⟨b,cap,junk,rfl,rfl,hxl,hjl,hnc⟩
 ·exact SlAt.nil _ _
 ·refine⟨_,_,rfl,hnc,by simp,hxl,λ_=>⟨b,0,xs++junk,e,(0,0),rfl,M.at_ (b,_) (hs _ Q5),?_⟩⟩
  have:=ZfG [] xs junk
  simpa[hxl] using this
theorem SlAt.src{P:Program}{W:World}{sz:Nat}{v:Value}{n:Nat}{xs:List Value}(h:SlAt W sz v n xs)(h1:xs.all (·.oneCell')=true):Zcc P W v n sz xs:=by
 obtain⟨p,cap,rfl,h2,h3,h4,h5⟩:=h
 rcases Nat.eq_zero_or_pos n with hn|hn
 ·subst hn
  have:xs=[]:=List.length_eq_zero_iff.1 (by simpa using h4)
  subst this
  refine⟨by simp[Builtin.lenOf],λd=>?_,by simp,by simp⟩
  cases p with
  |none=>simp[Builtin.firstCells]
  |some a=>exact run_firstCells_some _ sz 0 _ _ _ [] Q5 (λj v hj=>by simp at hj)
 ·obtain⟨b,o,cs,t,fz,rfl,h7,h8⟩:=h5 hn
  exact Zcc.cells' h7 h8 h1
section
variable {P:Program} {ρ:Operand->Value} {w W0:World} {S:List Nat} {l l':EN} {R:Value->World->Prop} {d:Option Tmp} {ty:TypeId} {pos:String} {af:Array Edge} {g:Option (Nat×Bool)}
theorem ZsG [ht:TOne P t](M:Mem [] W0 w l)(hx:ρ x= .pointer (some ⟨b,off,none⟩))(hb:W0.heap[b]? =some (.cells cs.toArray t' fz))(hv:nth cs off=some v)(h:R v w):OpTo P ⟨d, .load t x,ty,pos,af,g⟩ ρ w R:=
 Zi4 hx (ZdZ ht.h (Zfs ((M.ext.block b (Array.getElem?_eq_some_iff.1 hb).1 Q5).trans hb) (by rw[Zcl] at hv;simpa using hv))) h
theorem ZjU [ht:TAgg P t n](M:Mem [] W0 w l)(hx:ρ x= .pointer (some ⟨b,off,none⟩))(hb:W0.heap[b]? =some (.cells cs.toArray t' fz))(hv:seg cs off n=some vs)(h:R (.agg vs.toArray) w):OpTo P ⟨d, .load t x,ty,pos,af,g⟩ ρ w R:=
 Zi4 hx (Zam ht.h ((M.ext.block b (Array.getElem?_eq_some_iff.1 hb).1 Q5).trans hb) (by simpa using hv)) h
theorem ZvY{t e:TypeId}{p:Option Addr}{n c:Nat}(hx:ρ x= .slice p n c) [ht:TU P t (.slice e)](h:R (.int .i64 c) w):OpTo P ⟨d, .call ⟨.builtin .cap, #[x], #[t]⟩,ty,pos,af,g⟩ ρ w R:=
 OpTo.val (v:= .int .i64 c) (w':=w) (by simp[execOp,resolve,invoke,builtin,hx,Builtin.cap_,run_underlying ht.h,goInt]) h
theorem Zew{t e:TypeId}{x i:Operand}{k:IntKind}{b o len cap:Nat}{m:Int}(hx:ρ x= .slice (some ⟨b,o,none⟩) len cap)(hi:ρ i= .int k m) [ht:TU P t (.slice e)] [hs:TSz P e sz](h0:0<=m)(h1:m<=len)(h3:m<cap)(h:R (.slice (some ⟨b,o+m.toNat*sz,none⟩) (len-m.toNat) (cap-m.toNat)) w):OpTo P ⟨d, .slice t x (some i) none none,ty,pos,af,g⟩ ρ w R:=by
 have h6:¬cap=m.toNat:=by omega
 exact OpTo.val (v:= .slice (some ⟨b,o+m.toNat*sz,none⟩) (len-m.toNat) (cap-m.toNat)) (w':=w) (by simp[execOp,Instr.sliceAt,Instr.slice,Instr.sliceBounds,Instr.sliceBound,asIntOf,hx,hi,run_underlying ht.h,run_sizeOf hs.h,h0,h1,h6,ZbX]) h
theorem Znu{t e:TypeId}{x i:Operand}{k:IntKind}{p:Option Addr}{len cap:Nat}{m:Int}(hx:ρ x= .slice p len cap)(hi:ρ i= .int k m) [ht:TU P t (.slice e)] [hs:TSz P e sz](h0:0<=m)(h1:m<=len)(h:∀q,R (.slice q (len-m.toNat) (cap-m.toNat)) w):OpTo P ⟨d, .slice t x (some i) none none,ty,pos,af,g⟩ ρ w R:=by
 exact OpTo.val (v:= .slice (if cap=m.toNat then p else p.map (·.add (m.toNat*sz))) (len-m.toNat) (cap-m.toNat)) (w':=w) (by simp[execOp,Instr.sliceAt,Instr.slice,Instr.sliceBounds,Instr.sliceBound,asIntOf,hx,hi,run_underlying ht.h,run_sizeOf hs.h,h0,h1]) (h _)
theorem Zl8{e:Array Value→Sem Value}{xs:Array Operand}{vs:Array Value}(hc:ρ c= .func (.func f) #[] #[])(hf:P.funcs[f]? =some fn)(hname:(fn.name== "runtime.NumGoroutine")=false)
  (hb:fn.body.isNone=true) (hn:Extern.findNext fn=none) (he:Extern.find fn=some e) (ha:xs.map ρ=vs) (hr:(e vs).run P w= .ok v w) (h:R v w):OpTo P ⟨d, .call ⟨.value c,xs,ts⟩,ty,pos,af,g⟩ ρ w R:=by
 refine OpTo.val (v:=v) (w':=w) ?_ h
 have:=run_callFunc_extern hf hname hb hn he vs w
 rw[hr] at this
 simp[execOp,resolve,invoke,Deferred.ofValue,hc,ha,this]
end
def cmpL:List Int->List Int->Int
 |[],[]=>0
 |[],_::_=> -1
 | _::_,[]=>1
 |x::xs,y::ys=>if x<y then-1 else if y<x then 1 else cmpL xs ys
theorem Zip(n:Nat)(p:Nat->Bool):(List.range (n+1)).find? p=if p 0 then some 0 else((List.range n).find? λi=>p (i+1)).map (·+1):=by
 rw[List.range_succ_eq_map,List.find?_cons]
 cases h:p 0 with
 |true=>simp
 |false=>simp[List.find?_map];rfl
theorem ZrH(bs:List UInt8)(i:Nat):(⟨bs.toArray⟩:ByteArray)[i]! =bs.getD i default:=by
 rw[getElem!_def]
 rcases Nat.lt_or_ge i bs.length with h|h
 ·rw[Zqv h];simp[h]
 ·have:(⟨bs.toArray⟩:ByteArray)[i]? =none:=by
   rw[getElem?_neg]
   rw[ZeX];omega
  rw[this];simp[h]
theorem Zn1:∀(xs ys:List UInt8),Extern.BytealgCompare.cmp ⟨xs.toArray⟩ ⟨ys.toArray⟩=cmpL (xs.map λc=>(c.toNat:Int)) (ys.map λc=>(c.toNat:Int))
 |[],[]=>by decide
 |[],y::ys=>by
  unfold Extern.BytealgCompare.cmp
  rw[ZeX,ZeX]
  simp[cmpL]
 |x::xs,[]=>by
  unfold Extern.BytealgCompare.cmp
  rw[ZeX,ZeX]
  simp[cmpL]
 |x::xs,y::ys=>by
  have ih:=Zn1 xs ys
  unfold Extern.BytealgCompare.cmp at*
  rw[ZeX,ZeX] at*
  simp only[List.length_cons] at*
  have hm:min (xs.length+1) (ys.length+1)=min xs.length ys.length+1:=by omega
  rw[hm,Zip]
  have hg0:∀(z:UInt8)(zs:List UInt8),(⟨(z::zs).toArray⟩:ByteArray)[0]! =z:=λz zs=>by rw[ZrH];rfl
  have hg1:∀(z:UInt8)(zs:List UInt8)(i:Nat),(⟨(z::zs).toArray⟩:ByteArray)[i+1]! =(⟨zs.toArray⟩:ByteArray)[i]! :=by
   intro z zs i
   rw[ZrH,ZrH];simp
  simp only[hg0,hg1]
  by_cases hxy:x=y
  ·subst hxy
   simp only[bne_self_eq_false,Bool.false_eq_true,if_false,List.map_cons,cmpL,Int.lt_irrefl]
   rw[<-ih]
   cases List.find? (λi=>(⟨xs.toArray⟩:ByteArray)[i]! !=(⟨ys.toArray⟩:ByteArray)[i]!) (List.range (min xs.length ys.length)) with
   |none=>simp
   |some i=>simp[hg1]
  ·have hne:(x !=y)=true:=by simpa using hxy
   simp only[hne,if_true,hg0,List.map_cons,cmpL]
   have hnn:x.toNat≠y.toNat:=λh=>hxy (UInt8.toNat_inj.1 h)
   by_cases hlt:x<y
   ·have:x.toNat<y.toNat:=hlt
    rw[if_pos hlt,if_pos Q0]
   ·have:¬x.toNat<y.toNat:=hlt
    rw[if_neg hlt,if_neg Q0,if_pos Q0]
theorem Ziy:∀xs:List Int,cmpL xs xs=0
 |[]=>rfl
 |x::xs=>by simp[cmpL,Ziy xs]
theorem Zfo:∀xs ys:List Int,cmpL ys xs= -cmpL xs ys
 |[],[]=>rfl
 |[],_::_=>rfl
 | _::_,[]=>rfl
 |x::xs,y::ys=>by
  simp only[cmpL]
  rcases Int.lt_trichotomy x y with h|h|h
  ·rw[if_neg Q0,if_pos h,if_pos h];rfl
  ·subst h;simp[Zfo xs ys]
  ·rw[if_pos h,if_neg Q0,if_pos h]
theorem Zix:∀{xs ys:List Int},cmpL xs ys=0->xs=ys
 |[],[],_=>rfl
 |[],_::_,h=>by simp[cmpL] at h
 | _::_,[],h=>by simp[cmpL] at h
 |x::xs,y::ys,h=>by
  simp only[cmpL] at h
  split at h
  ·cases h
  ·split at h
   ·cases h
   ·rw[Zix h,show x=y by omega]
theorem Zde:∀{xs ys zs:List Int},cmpL xs ys<0->cmpL ys zs<0->cmpL xs zs<0
 |[],[],_,h,_=>by simp[cmpL] at h
 |[],_::_,[],_,h=>by simp[cmpL] at h
 |[],_::_,_::_,_,_=>by simp[cmpL]
 | _::_,[],_,h,_=>by simp[cmpL] at h
 | _::_,_::_,[],_,h=>by simp[cmpL] at h
 |x::xs,y::ys,z::zs,h,k=>by
  simp only[cmpL] at*
  rcases Int.lt_trichotomy x y with h1|h1|h1
  ·rcases Int.lt_trichotomy y z with k1|k1|k1
   ·rw[if_pos Q0];omega
   ·subst k1;rw[if_pos h1];omega
   ·rw[if_neg Q0,if_pos k1] at k;omega
  ·subst h1
   rw[if_neg Q0,if_neg Q0] at h
   rcases Int.lt_trichotomy x z with k1|k1|k1
   ·rw[if_pos k1];omega
   ·subst k1
    rw[if_neg Q0,if_neg Q0] at*
    exact Zde h k
   ·rw[if_neg Q0,if_pos k1] at k;omega
  ·rw[if_neg Q0,if_pos h1] at h;omega
theorem ZhY{P:Program}{w:World}{v:Value}{n:Nat}{xs:List Int}(h:SlAt w 1 v n (xs.map (Value.int .u8))):(Extern.Bytes.bytesOf v).run P w= .ok ⟨(Lib.bytesOf xs).toArray⟩ w:=by
 obtain⟨p,cap,rfl,h2,h3,h4,h5⟩:=h
 simp only[List.length_map,Nat.mul_one] at h4
 rcases Nat.eq_zero_or_pos n with hn|hn
 ·have:xs=[]:=List.length_eq_zero_iff.1 Q0
  subst this;subst hn
  cases p with
  |none=>simp[Extern.Bytes.bytesOf,Lib.bytesOf];rfl
  |some a=>simp[Extern.Bytes.bytesOf,Lib.bytesOf,Extern.Bytes.loadBytes];rfl
 ·obtain⟨b,o,cs,t,fz,rfl,h7,h8⟩:=h5 hn
  have:=Lib.run_loadBytesX (P:=P) w xs ⟨b,o,none⟩ .empty (λj x hj=>by
   obtain⟨h9,h10⟩:=Zed _ _ _ _ h8
   have hjl:j<xs.length:=(List.getElem?_eq_some_iff.1 hj).1
   have:=h10 j Q0
   rw[ZbX]
   refine Zfs h7 ?_
   simp only[List.getElem?_toArray,this]
   simp[hj])
  simp only[Extern.Bytes.bytesOf,<-h4]
  rw[this]
  simp[ByteArray.empty,ByteArray.emptyWithCapacity]
  rfl
theorem Zjw{xs:List Int}(h:∀x∈xs,0<=x/\x<256):(Lib.bytesOf xs).map (λc=>(c.toNat:Int))=xs:=by
 induction xs with
 |nil=>rfl
 |cons x xs ih=>
  have h1:=h x Q5
  have e:(Lib.bytesOf (x::xs))=x.toNat.toUInt8::Lib.bytesOf xs:=by simp[Lib.bytesOf]
  rw[e,List.map_cons,ih λy hy=>h y (by simp[hy])]
  congr 1
  simp only[Nat.toUInt8,UInt8.toNat_ofNat']
  omega
theorem ZlP{n m:Nat}{xs ys:List Int}(h:SlAt w 1 v n (xs.map (Value.int .u8)))(k:SlAt w 1 u m (ys.map (Value.int .u8)))(hx:∀x∈xs,0<=x/\x<256)(hy:∀x∈ys,0<=x/\x<256):
  (Extern.BytealgCompare.compare #[v,u]).run P w= .ok (.int .i64 (cmpL xs ys)) w:=by
 change Sem.run P (do pure (goInt (Extern.BytealgCompare.cmp (<-Extern.Bytes.bytesOf v) (<-Extern.Bytes.bytesOf u)))) w=_
 simp only[Sem.run_bind,ZhY h,ZhY k,Result.andThen_ok,Sem.run_pure,Zn1,Zjw hx,Zjw hy,goInt]
section
variable {P:Program} {ρ:Operand->Value} {w W0:World} {S:List Nat} {l l':EN} {R:Value->World->Prop} {d:Option Tmp} {ty:TypeId} {pos:String} {af:Array Edge} {g:Option (Nat×Bool)}
theorem ZtU{tS tR e:TypeId}{sz vb b o1 o2 la ca lb cb:Nat}{tA tB:TypeId}(ht:P.underlying tS=some (.slice e))(hz:ZkH P e sz=true)(hne:vb≠b)(ha:w.heap[vb]? =some (.cells ys.toArray tA (0,0)))(hb:w.heap[b]? =some (.cells cs.toArray tB (0,0)))(hk:cs.length≠0):
  (Extern.SlicesOverlaps.overlaps #[tS,tS] #[tR] #[.slice (some ⟨vb,o1,none⟩) la ca, .slice (some ⟨b,o2,none⟩) lb cb]).run P w= .ok (.bool false) w:=
 Lib.run_overlaps_apart w tS tR e ht sz (λw=>run_sizeOf hz) ⟨vb,o1,none⟩ ⟨b,o2,none⟩ la ca lb cb hne tA tB ys.length cs.length (by simp[World.shape?,ha]) (by simp[World.shape?,hb]) hk (by simp[World.frozen?,ha]) (by simp[World.frozen?,ha])
theorem Zk3{st tn e:TypeId}{sz by_ i k cap:Nat}{p:Option Addr} [hst:TU P st (.slice e)] [htn:TU P tn (.int .i64)] [hel:TEl P e sz by_](M:Mem S W0 w l)(hX:Zcc P w (.slice p i cap) i sz xs)
  (hx:ρ x= .slice p i cap) (hy:ρ y= .int .i64 (k:Int)) (hgt:cap<i+k) (hci:i<=cap) (hsz:0<sz) (hbd:(i+k)*by_<=140737488355328) (hln:i+k<=9223372036854775807)
  (h:∀b cap' zs w',zs.length=(cap'-i)*sz->i+k<=cap'->Mem S W0 w' ((b, .cells (xs++zs).toArray e (0,0))::l)->R (.slice (some ⟨b,0,none⟩) (i+k) cap') w'):OpTo P ⟨d, .call ⟨.builtin .append, #[x,y], #[st,tn]⟩,ty,pos,af,g⟩ ρ w R:=by
 obtain⟨inf,z,hi,rfl,rfl,hz,hzs⟩:=ZhI hel.h
 have hw:IntKind.i64.wrap (k:Int)=k:=ZlB Q0 Q0
 have hkb:k*inf.bytes<=281474976710656:=by
  have:k*inf.bytes<=(i+k)*inf.bytes:=Nat.mul_le_mul_right _ Q0
  omega
 have h48i:¬(281474976710656<(k:Int)*(inf.bytes:Int)):=by
  rw[<-Int.natCast_mul];omega
 have hneg:¬((k:Int)<0):=by omega
 have hk0:k≠0:=by omega
 have hns:¬(k*inf.size=0):=Nat.mul_ne_zero hk0 Q0
 have hn:¬(i+k<=cap):=by omega
 have h63':¬(9223372036854775807<((i:Int)+(k:Int))):=by omega
 have h48:¬(281474976710656<Builtin.nextslicecap (i+k) cap*inf.bytes):=by
  have:=growslice_fits (need:=i+k) (old:=cap) (bytes:=inf.bytes) Q0 hbd
  omega
 have hold:=hX.cells (w.drawn+1)
 have hnc:i+k<=grownCap w (i+k) cap e:=grownCap_ge w _ _ _
 have hrun:(Builtin.append_ #[st,tn] ty #[.slice p i cap, .int .i64 (k:Int)]).run P w= .ok (.slice (some ⟨w.heap.size,0,none⟩) (i+k) (grownCap w (i+k) cap e)) (w.drew.alloc (.cells (xs.toArray++Builtin.zeroCells z.cells k++Builtin.zeroCells z.cells (grownCap w (i+k) cap e-(i+k))) e)):=by
  have hold':(Builtin.firstCells inf.size i (.slice p i cap)).run P w.drew= .ok xs.toArray w.drew:=hold
  simp[Builtin.append_,run_underlying hst.h,run_underlying htn.h,sizeOf,typeInfo,zeroValue,hi,hz,asInt,asIntOf,hw,hk0,hneg,hns,h63',h48,h48i,hn,Question.forced,hold',newRow,grownCap]<;>(congr 2;apply Array.ext';simp)
 have e1:(xs.toArray++Builtin.zeroCells z.cells k++Builtin.zeroCells z.cells (grownCap w (i+k) cap e-(i+k)))=(xs++((Builtin.zeroCells z.cells k).toList++(Builtin.zeroCells z.cells (grownCap w (i+k) cap e-(i+k))).toList)).toArray:=by
  apply Array.ext';simp
 rw[e1] at hrun
 have hzl:((Builtin.zeroCells z.cells k).toList++(Builtin.zeroCells z.cells (grownCap w (i+k) cap e-(i+k))).toList).length=(grownCap w (i+k) cap e-i)*inf.size:=by
  rw[List.length_append,Array.length_toList,Array.length_toList,size_zeroCells,size_zeroCells,hzs,<-Nat.add_mul]
  congr 1
  omega
 generalize(Builtin.zeroCells z.cells k).toList++(Builtin.zeroCells z.cells (grownCap w (i+k) cap e-(i+k))).toList=zs at*
 refine OpTo.val (v:= .slice (some ⟨w.heap.size,0,none⟩) (i+k) (grownCap w (i+k) cap e)) (w':=w.drew.alloc (.cells (xs++zs).toArray e (0,0))) ?_ (h _ _ zs _ hzl hnc ((M.later (Ext.drawn w (w.drawn+1) (Nat.le_succ _))).alloc (.cells (xs++zs).toArray e (0,0))))
 simp[execOp,resolve,invoke,builtin,hx,hy,hrun]
end
structure Sh(n0:Nat)(B:List Nat)(w w':World):Prop where
 os:w'.os=w.os
 tape:w'.tape=w.tape
 output:w'.output=w.output
 size:w.heap.size<=w'.heap.size
 dr:w.drawn<=w'.drawn
 old:∀k,k<n0->k<w.heap.size->k∉B->w'.heap[k]? =w.heap[k]?
 new:∀k cs t,n0<=k->w.heap[k]? =some (.cells cs t (0,0))->∃cs',w'.heap[k]? =some (.cells cs' t (0,0))/\cs'.size=cs.size
theorem Sh.of_ext(h:Ext [] w w'):Sh n0 B w w':=
 ⟨h.os,h.tape,h.output,h.size,h.dr,λk _ hk _=>h.block k hk Q5,λk cs t _ hb=>⟨cs,by rw[h.block k (Array.getElem?_eq_some_iff.1 hb).1 Q5];exact hb,rfl⟩⟩
theorem Sh.of_extB(h:Ext B w w')(hB:∀k∈B,k<n0):Sh n0 B w w':=
 ⟨h.os,h.tape,h.output,h.size,h.dr,λk _ hk hb=>h.block k hk hb,λk cs t hn hb=>⟨cs,by rw[h.block k (Array.getElem?_eq_some_iff.1 hb).1 (λhm=>by have:=hB k hm;omega)];exact hb,rfl⟩⟩
theorem Sh.trans{a b c:World}(h:Sh n0 B a b)(k:Sh n0 B b c):Sh n0 B a c:=
 ⟨k.os.trans h.os,k.tape.trans h.tape,k.output.trans h.output,Nat.le_trans h.size k.size,Nat.le_trans h.dr k.dr,λi hi hs hb=>(k.old i hi (Nat.lt_of_lt_of_le hs h.size) hb).trans (h.old i hi hs hb),λi cs t hn hb=>by
  obtain⟨cs1,h1,h2⟩:=h.new i cs t hn hb
  obtain⟨cs2,h3,h4⟩:=k.new i cs1 t hn h1
  exact⟨cs2,h3,h4.trans h2⟩⟩
def ZyL(n0:Nat)(B:List Nat):Keep:=⟨Ext [],Sh n0 B,λw=>Ext.refl [] w,Sh.of_ext,Sh.trans,λh=>h.size⟩
theorem Sh.ext(h:Sh w.heap.size B w w'):Ext B w w':=⟨h.os,h.tape,h.output,h.size,h.dr,λk hk hb=>h.old k hk hk hb⟩
theorem Sh.of_new{cs cs':Array Value}(h:Ext [b] w w')(hn:n0<=b)(hb:w.heap[b]? =some (.cells cs t (0,0)))(hb':w'.heap[b]? =some (.cells cs' t (0,0)))(hs:cs'.size=cs.size):Sh n0 B w w':=
 ⟨h.os,h.tape,h.output,h.size,h.dr,λk hk hks _=>h.block k hks (by simp only[List.mem_singleton];omega),λk ds t' _ hk=>by
  by_cases e:k=b
  ·subst e
   rw[hb] at hk
   cases hk
   exact⟨cs',hb',hs⟩
  ·exact⟨ds,by rw[h.block k (Array.getElem?_eq_some_iff.1 hk).1 (by simpa using e)];exact hk,rfl⟩⟩
def AlS(n0:Nat)(t:TypeId)(len:Nat):Pred:=λv w=>∃b cs,v=Zcz b/\n0<=b/\w.heap[b]? =some (.cells cs t (0,0))/\cs.size=len
theorem AlS.stays(n0:Nat)(B:List Nat)(t:TypeId)(len:Nat):Zfw (ZyL n0 B) (AlS n0 t len):=λv w w'⟨b,cs,h1,h2,h3,h4⟩h=>by
 obtain⟨cs',h5,h6⟩:=Sh.new h b cs t h2 h3
 exact⟨b,cs',h1,h2,h5,h6.trans h4⟩
theorem Zsr{ρ:Operand->Value}{o:Oper}(hx:∀x,(o.op= .move x∨∃i,o.op= .extract x i)->ρ x=u)(h:relV o.op u=some v):(execOp ρ o).run P w= .ok (.value v) w:=by
 unfold relV at h
 cases hop:o.op<;>rw[hop] at h<;>simp only at h<;>try cases h
 ·rename_i x
  have:=hx x (.inl hop)
  simp[execOp,hop,this]
 ·rename_i x i
  have:=hx x (.inr ⟨i,hop⟩)
  split at h
  ·rename_i vs
   simp[execOp,hop,this,Instr.extract,h]
  ·cases h
section
variable {c:RC} {fr:FN} {Vs:List Pred} {T T':Zep} {rest:List Oper} {d:Nat} {op:Op} {ty:TypeId} {pos:String} {af:Array Edge} {ix:Nat}
def effX(Ef:List Nat)(Rl:List (Nat×Nat))(Pp:List Zeq)(n ix:Nat)(op:Op):Bool:=Nat.blt ix n&&Ef.contains ix&& !isAl op&&Pp.isEmpty&&Zdn Rl ix
theorem ZcO{Ef:List Nat}{Rl:List (Nat×Nat)}{Pp:List Zeq}{n ix:Nat}{op:Op}(h:effX Ef Rl Pp n ix op=true):ix<n/\ix∈Ef/\isAl op=false/\Pp=[]/\Zdn Rl ix=true:=by
 simp only[effX,Bool.and_eq_true,Bool.not_eq_true'] at h
 exact⟨Nat.le_of_ble_eq_true h.1.1.1.1,by simpa using h.1.1.1.2,h.1.1.2,List.isEmpty_iff.1 h.1.2,h.2⟩
theorem xAl{t0:TypeId}{cs0:List Value}(hok:Zb2 c.ops c.n=true)(hlt:(Nat.blt ix c.n&& !c.Ef.contains ix&&(ZdO c.Pp ix&&Zdn c.Rl ix))=true)(hnd:ZcU d fr=true)(hst:Zfw c.K (AlS c.w1.heap.size t0 cs0.length))(hr:∀w,c.K.r w (w.alloc (.cells cs0.toArray t0 (0,0))))
  (h:∀a w,Frm a c.nt c.df fr->c.K.e c.w1 w->(execOp a.eval ⟨some d,op,ty,pos,af,none⟩).run c.P w= .ok (.value (Zcz w.heap.size)) (w.alloc (.cells cs0.toArray t0 (0,0))))
  (k:MW c (ix+1) rest fr (Vs++[AlS c.w1.heap.size t0 cs0.length]) T):MW c ix (⟨some d,op,ty,pos,af,none⟩::rest) fr Vs T:=by
 simp only[Bool.and_eq_true,Bool.not_eq_true'] at hlt
 have h1:ix<c.n:=Nat.le_of_ble_eq_true hlt.1.1
 have h2:ix∉c.Ef:=by simpa using hlt.1.2
 rintro rfl hT0 hPK
 refine ZcN hok h1 hst hT0.1 hT0.2 (λ_=>rfl) hPK (λhC ho'=>Zcn (λd' hd'=>by cases hd';exact hnd) hC ho') (λa w σ F he hdp hT hPp hσ hrel=>?_) (k Q5 ⟨hT0.1,hT0.2.succ⟩ hPK)
 simp only[Region.wanted,if_true]
 exact OpTo.val (h a w F he) ⟨c.K.re (hr w),⟨w.heap.size,cs0.toArray,rfl,c.K.size he,heap_alloc_new w _,by simp⟩,λ_=>⟨rfl,by simp⟩,λ_ _=>hr w,λhh=>absurd hh h2, .flo hlt.2.1 λ_=>Ext.alloc w _,λq hq e=>(ZaI hlt.2.2 q hq e).elim⟩
def ZvA(ops:Array Oper)(Ef:List Nat)(Rl:List (Nat×Nat))(Pp:List Zeq)(n ix k:Nat)(op:Op)(af:Array Edge):Bool:=
 Nat.blt ix n&& !Ef.contains ix&& !isAl op&&ZdO Pp ix&&(Rl.all λq=>q.1 !=ix||q.2==k)&&
 (match op with| .move (.tmp t)| .extract (.tmp t) _=>(ops[k]?).bind (·.dst)==some t| _=>false)&&(af.toList.filter (Region.binds .any)).any (λe=>e.on==k)
theorem vCq(h:p:=by
  cases x with
  |tmp t=>exact⟨t,rfl,by simpa using g6⟩
  |const _=>simp at g6
  |global _=>simp at g6
  |func _=>simp at g6):p:=h
theorem xRel{V:Pred}(k':Nat){U:Pred}(hok:Zb2 c.ops c.n=true)(hlt:ZvA c.ops c.Ef c.Rl c.Pp c.n ix k' op af=true)(hnd:ZcU d fr=true)(hst:Zfw c.K V)(hr:∀w,c.K.r w w)(hU:Vs[k']? =some U)
  (h:∀u w,c.K.e c.w1 w->U u w->∃v,relV op u=some v/\V v w)
  (k:MW c (ix+1) rest fr (Vs++[V]) T):MW c ix (⟨some d,op,ty,pos,af,none⟩::rest) fr Vs T:=by
 simp only[ZvA,Bool.and_eq_true,Bool.not_eq_true'] at hlt
 obtain⟨⟨⟨⟨⟨⟨g1,g2⟩,g3⟩,g4⟩,g5⟩,g6⟩,g7⟩:=hlt
 have h1:ix<c.n:=Nat.le_of_ble_eq_true g1
 have h2:ix∉c.Ef:=by simpa using g2
 have hk:k'∈ZaE ⟨some d,op,ty,pos,af,none⟩:=by
  obtain⟨e,he,h3⟩:=List.any_eq_true.1 g7
  exact List.mem_map.2 ⟨e,he,by simpa using h3⟩
 rintro rfl hT0 hPK
 refine ZcN hok h1 hst hT0.1 hT0.2 (λ_=>rfl) hPK (λhC ho'=>Zcn (λd' hd'=>by cases hd';exact hnd) hC ho') (λa w σ F he hdp hT hPp hσ hrel=>?_) (k Q5 ⟨hT0.1,hT0.2.succ⟩ hPK)
 simp only[Region.wanted,if_true]
 obtain⟨v,hv1,hv2⟩:=h (ZaP c.ops k' a) w he (hdp k' hk U hU)
 have hrun:(execOp a.eval ⟨some d,op,ty,pos,af,none⟩).run c.P w= .ok (.value v) w:=by
  refine Zsr (u:=ZaP c.ops k' a) (λx hx=>?_) hv1
  have hx':op= .move x∨∃i,op= .extract x i:=hx
  have:∃t,x= .tmp t/\(c.ops[k']?).bind (·.dst)=some t:=by
   rcases hx' with rfl|⟨i,rfl⟩
   ·exact vCq
   ·exact vCq
  obtain⟨t,rfl,ht⟩:=this
  unfold ZaP
  rw[ht]
  rfl
 exact OpTo.val hrun ⟨c.K.re (hr w),hv2,λhh=>absurd (g3.symm.trans hh) Bool.false_ne_true,λ_ _=>hr w,λhh=>absurd hh h2, .flo g4 λ_=>Ext.refl _ _,λq hq e=>by
  have:=List.all_eq_true.1 g5 q hq
  simp only[bne_iff_ne,ne_eq,Bool.or_eq_true,e,not_true_eq_false,false_or,beq_iff_eq] at this
  rw[this];exact hv1⟩
theorem Zxh(hn:Nat.beq ix c.n=true)
  (h:∀a w,Frm a c.nt c.df fr->c.K.e c.w1 w->(∀(j:Nat)(V:Pred),Vs[j]? =some V->V (ZaP c.ops j a) w)->T (ZdM c.Ef c.X c.ops a) w->
   (∀i j oi oj,i<c.n->j<c.n->i≠j->c.ops[i]? =some oi->c.ops[j]? =some oj->isAl oi.op=true->isAl oj.op=true->ZaP c.ops i a≠ZaP c.ops j a)->
   (∀q∈c.Rl,∃oq,c.ops[q.1]? =some oq/\relV oq.op (ZaP c.ops q.2 a)=some (ZaP c.ops q.1 a))->wpListIn (FW c.r) 0 c.P c.ops c.Q rest a w):MW c ix rest fr Vs T:=by
 rintro rfl hT0 hPK
 have hn':Vs.length=c.n:=Nat.eq_of_beq_eq_true hn
 intro hdrop hC hle h1
 refine⟨[],λ_=>T,by simp[hn'],by simp,rfl,λ_ _=>hT0.1,λ_ _ _=>rfl,λk hk x hx hkx=>hT0.2 x hx Q0,λTs' hTs'=>⟨by simp,λlisted a w M hall hT=>?_⟩⟩
 rw[List.append_nil] at M
 rw[hn'] at hdrop
 rw[hdrop]
 rw[hTs' c.n Q0] at hT
 refine h a w ⟨M.size,M.defers,λt v ht=>?_⟩ M.ext (λj V hV=>M.vals j V (by rw[<-hn'];exact(List.getElem?_eq_some_iff.1 hV).1) (hall j (by rw[<-hn'];exact(List.getElem?_eq_some_iff.1 hV).1)) hV) hT (λi j oi oj hi hj hne hoi hoj hai haj=>M.dist i j oi oj hi hj hne hoi hoj hai haj (hall i hi) (hall j hj)) (λq hq=>by
  have h:=List.all_eq_true.1 hPK.1.2 q hq
  simp only[Bool.and_eq_true,decide_eq_true_eq] at h
  exact M.rel q hq (hall q.1 h.1.1))
 exact vBk
end
section
variable {P:Program} {ρ:Operand->Value} {w:World} {R:Value->World->Prop} {d:Option Tmp} {ty:TypeId} {pos:String} {af:Array Edge} {g:Option (Nat×Bool)}
theorem ZbM [ht:TAgg P t n](hx:ρ x= .pointer (some ⟨b,off,none⟩))(hb:w.heap[b]? =some (.cells cs.toArray t' fz))(hv:seg cs off n=some vs)(h:R (.agg vs.toArray) w):OpTo P ⟨d, .load t x,ty,pos,af,g⟩ ρ w R:=
 Zi4 hx (Zam ht.h hb (by simpa using hv)) h
theorem ZcB [ht:TOne P t](hx:ρ x= .pointer (some ⟨b,off,none⟩))(hb:w.heap[b]? =some (.cells cs.toArray t' fz))(hv:nth cs off=some v)(h:R v w):OpTo P ⟨d, .load t x,ty,pos,af,g⟩ ρ w R:=
 Zi4 hx (ZdZ ht.h (Zfs hb (by rw[Zcl] at hv;simpa using hv))) h
end
theorem ZrE{r:Option Nat}{Q:Exit->Act->World->Prop}{w:World}{nt:Nat}{id:Nat}{ol:List Oper}(K:Keep)(Ef X:List Nat)(Rl:List (Nat×Nat))(T:Zep)(n:Nat) [hm:TMix P](F:Frm a nt df fr)
  (hchk:(Zb2 ol.toArray n&&Zdg ol.toArray n&&Nat.ble n ol.length&&Zg8 ol.toArray n nt&&ZcH ol.toArray n Ef&&xOk ol.toArray n Ef X&&Zh3 ol.toArray n Rl)=true) (hsT:ZcG K T) (hX0:∀x∈X,irrT T x) (hT:∀σ d,w.drawn<=d->T σ {w with drawn:=d})
  (h:∀w1,Ext [] w w1->w1.heap.size=w.heap.size->Zb2 ol.toArray n=true->MW ⟨K,Ef,[],P,r,ol.toArray,n,nt,df,a,w1,Q,X,Rl⟩ 0 ol fr [] T):Wp r P (.region id ol.toArray true) Q a w:=by
 simp only[Bool.and_eq_true] at hchk
 obtain⟨⟨⟨⟨⟨⟨h1,h2⟩,h3⟩,h4⟩,h6⟩,h7⟩,h8⟩:=hchk
 have hw1:Ext [] w {w with drawn:=w.drawn+1}:=Ext.drawn w _ (Nat.le_succ _)
 have hpo:Zeg ol.toArray n Ef []=true:=rfl
 obtain⟨Us,Ts,hl,hs,hT1,hT2,hT3,hT4,hgt⟩:=h _ hw1 rfl h1 rfl ⟨hsT,λx hx _=>hX0 x hx⟩ ⟨⟨hpo,h8⟩,λh=>absurd rfl h⟩ Q5 ⟨λt v hv=> .inl ⟨λj o hj=>absurd hj Q5,F.at_ t v hv⟩⟩ (Nat.zero_le _) F.size
 simp only[List.nil_append,List.length_nil] at hl hT1 hT2 hT3 hT4 hgt
 obtain⟨hg,ht⟩:=hgt Ts (λ_ _=>rfl)
 have hst:∀k,ZcG K (Ts k):=λk=>by
  rcases Nat.eq_zero_or_pos k with rfl|h
  ·rw[hT1];exact hsT
  ·exact hT2 k h
 refine ZiW (K:=K) (Pp:=[]) (Ef:=Ef) (X:=X) (Rl:=Rl) (Ts:=Ts) (nt:=nt) (df:=df) hm.h h1 h2 (by have:=Nat.le_of_ble_eq_true h3;simpa using this) hl hs h6 hst (λk hk=>hT3 k (Nat.zero_le _) hk) h7 (λx hx p hp=>hT4 p (Nat.zero_le _) x hx hp) h8 (by rw[hT1];exact hT _ _ (Nat.le_succ _)) hpo (λh=>absurd rfl h) (λi o d hi ho hd=>?_) F.size F.defers rfl (λi V hV=>by simpa using hg i V hV) (λlisted a w M hall=>?_)
 ·exact vCV
 ·exact vCg
structure NewM(n0:Nat)(w:World)(l:EN):Prop where
 at_:∀p∈l,w.heap[p.1]? =some p.2
 nd:(l.map (·.1)).Nodup
 ge:∀p∈l,n0<=p.1
theorem NewM.lt(h:NewM n0 w l){p:Nat×Obj}(hp:p∈l):p.1<w.heap.size:=(Array.getElem?_eq_some_iff.1 (h.at_ p hp)).1
theorem NewM.later(h:NewM n0 w l)(E:Ext [] w w'):NewM n0 w' l:=
 ⟨λp hp=>by rw[E.block _ (h.lt hp) Q5];exact h.at_ p hp,h.nd,h.ge⟩
theorem Mem.new(M:Mem [] w w' l)(h:n0<=w.heap.size):NewM n0 w' l:=
 ⟨M.at_,M.nd,λp hp=>Nat.le_trans h ((M.own p hp).resolve_left Q5)⟩
theorem Mem.joinNew{W0 w1 w:World}{l new:EN}(M:Mem S W0 w l)(M1:Mem S W0 w1 l)(N:NewM w1.heap.size w new):Mem S W0 w (new++l):=by
 refine⟨M.ext,λp hp=>(List.mem_append.1 hp).elim (N.at_ p) (M.at_ p),?_,λp hp=>(List.mem_append.1 hp).elim (λh=> .inr (Nat.le_trans M1.ext.size (N.ge p h))) (M.own p)⟩
 rw[List.map_append,List.nodup_append]
 refine⟨N.nd,M.nd,?_⟩
 rintro a ha b hb rfl
 obtain⟨p,hp,rfl⟩:=List.mem_map.1 ha
 obtain⟨q,hq,e⟩:=List.mem_map.1 hb
 have h3:=M1.lt hq
 have h4:=N.ge p hp
 omega
def NewP(n0:Nat)(Φ:Value->EN->Prop):Pred:=λv w=>∃ent,Φ v ent/\NewM n0 w ent
theorem NewP.stays(n0:Nat)(Φ:Value->EN->Prop):Zfw Zg2 (NewP n0 Φ):=λ_ _ _⟨ent,h,N⟩E=>⟨ent,h,N.later E⟩
theorem Zmb{w1 w w':World}{x:Value}{Φ:Value->EN->Prop}(E:Ext [] w1 w)(h:∃ent,Φ x ent/\Mem [] w w' ent):Ext [] w w'/\NewP w1.heap.size Φ x w':=
 h.elim λent hh=>⟨hh.2.ext,ent,hh.1,hh.2.new E.size⟩
theorem Zug{o:Oper}{j:Nat}(h:(ZaE o).contains j=true):j∈ZaE o:=by simpa using h
theorem Zx8{A B C C' Y:List Value}{off q:Nat}(hq:q=A.length+off)(h:put C off Y=some C'):put (A++(C++B)) q Y=some (A++(C'++B)):=by
 subst hq
 obtain⟨h1,rfl⟩:=ZcZ _ _ _ _ h
 rw[ZiY _ _ _ (by simp;omega)]
 congr 1
 unfold ZbD
 rw[List.take_append,List.drop_append,List.take_of_length_le Q0,List.drop_of_length_le Q0,List.nil_append,show A.length+off-A.length=off by omega,show A.length+off+Y.length-A.length=off+Y.length by omega,List.take_append_of_le_length Q0,List.drop_append_of_le_length Q0]
 simp only[List.append_assoc]
theorem Zkc{α:Type}{enc:α->List Value}{ls:List α}(hsz:∀x∈ls,(enc x).length=sz)(junk:List Value)(hi:i<ls.length){off q:Nat}{Y:List Value}{x':α}(h:put (enc ls[i]) off Y=some (enc x'))(hq:q=i*sz+off):
  put (encL enc ls++junk) q Y=some (encL enc (ls.set i x')++junk):=by
 have e1:ls=ls.take i++ls[i]::ls.drop (i+1):=by rw[List.getElem_cons_drop,List.take_append_drop]
 have e2:ls.set i x'=ls.take i++x'::ls.drop (i+1):=by rw[List.set_eq_take_append_cons_drop,if_pos hi]
 have hA:(encL enc (ls.take i)).length=i*sz:=by
  rw[Za2 λx hx=>hsz x (List.mem_of_mem_take hx),List.length_take,Nat.min_eq_left Q0]
 have f1:encL enc ls++junk=encL enc (ls.take i)++(enc ls[i]++(encL enc (ls.drop (i+1))++junk)):=by
  conv=>lhs;rw[e1]
  rw[ZbC,Zcf]
  simp only[List.append_assoc]
 have f2:encL enc (ls.set i x')++junk=encL enc (ls.take i)++(enc x'++(encL enc (ls.drop (i+1))++junk)):=by
  rw[e2,ZbC,Zcf]
  simp only[List.append_assoc]
 rw[f1,f2]
 exact Zx8 (by rw[hA];omega) h
theorem ZvM{e:TypeId}{α:Type}{enc:α->List Value}{ls:List α}{junk:List Value}(h:(encL enc ls).length=n*sz):seg (encL enc ls++junk) 0 (n*sz)=some (encL enc ls):=by
 have:=ZfG [] (encL enc ls) junk
 simpa[h] using this
theorem Zeu{α:Type}{enc:α->List Value}{ls:List α}(hsz:∀x∈ls,(enc x).length=sz)(junk:List Value)(hi:i<ls.length){q:Nat}(hq:q=i*sz):seg (encL enc ls++junk) q sz=some (enc ls[i]):=
 Zal hsz (o:=0) (n:=ls.length) (ZvM (e:=0) (Za2 hsz)) hi Q0
def NewV(n0:Nat)(v:Value):Prop:=∀b o s n c,v= .slice (some ⟨b,o,s⟩) n c->n0<=b
theorem SlAt.laterB(h:SlAt W sz v n xs)(hn:∀b o s k c,v= .slice (some ⟨b,o,s⟩) k c->b∉B)(E:Ext B W w):SlAt w sz v n xs:=by
 obtain⟨p,cap,rfl,h1,h2,h3,h4⟩:=h
 refine⟨p,cap,rfl,h1,h2,h3,λh0=>?_⟩
 obtain⟨b,o,cs,t,fz,rfl,hb,hs⟩:=h4 h0
 exact⟨b,o,cs,t,fz,rfl,by rw[E.block b (Array.getElem?_eq_some_iff.1 hb).1 (hn b o none n cap rfl)];exact hb,hs⟩
def ZfZ{κ:Type} [DecidableEq κ](x:κ):List (κ×Value)->Nat->Option (Nat×Value)
 |[],_=>none
 |p::m,i=>if x=p.1 then some (i,p.2) else ZfZ x m (i+1)
def getA{κ ν:Type} [DecidableEq κ](x:κ):List (κ×ν)->Option ν
 |[]=>none
 |p::m=>if x=p.1 then some p.2 else getA x m
def putA{κ ν:Type} [DecidableEq κ](x:κ)(v:ν):List (κ×ν)->List (κ×ν)
 |[]=>[(x,v)]
 |p::m=>if x=p.1 then(x,v)::m else p::putA x v m
section plain
variable {κ ν μ:Type} [DecidableEq κ]
theorem Zgw(x:κ)(v:ν):∀m,getA x (putA x v m)=some v
 |[]=>by simp[putA,getA]
 |p::m=>by
  unfold putA
  split
  ·simp[getA]
  ·rename_i h
   simp[getA,h,Zgw x v m]
theorem ZfI{x y:κ}(h:y≠x)(v:ν):∀m,getA y (putA x v m)=getA y m
 |[]=>by simp[putA,getA,h]
 |p::m=>by
  unfold putA
  split
  ·rename_i h2
   subst h2
   simp[getA,h]
  ·simp[getA,ZfI h v m]
theorem Zgx(x y:κ)(v:ν)(m:List (κ×ν)):getA y (putA x v m)=if y=x then some v else getA y m:=by
 split
 ·rename_i h;subst h;exact Zgw _ _ _
 ·rename_i h;exact ZfI h _ _
theorem ZhE(f:ν->μ)(x:κ):∀m:List (κ×ν),getA x (m.map λp=>(p.1,f p.2))=(getA x m).map f
 |[]=>rfl
 |p::m=>by
  simp only[List.map_cons,getA,ZhE f x m]
  split<;>rfl
theorem Zhx(f:ν->μ)(x:κ)(v:ν):∀m:List (κ×ν),putA x (f v) (m.map λp=>(p.1,f p.2))=(putA x v m).map λp=>(p.1,f p.2)
 |[]=>rfl
 |p::m=>by
  simp only[List.map_cons,putA,Zhx f x v m]
  split<;>rfl
theorem Znk{p:κ->Prop}{x:κ}{v:ν}(hx:p x):∀{m:List (κ×ν)},(∀q∈m,p q.1)->∀q∈putA x v m,p q.1
 |[],_,q,hq=>by simp[putA] at hq;subst hq;exact hx
 |r::m,h,q,hq=>by
  unfold putA at hq
  split at hq
  ·rcases List.mem_cons.1 hq with rfl|hq
   ·exact hx
   ·exact h q (List.mem_cons_of_mem _ hq)
  ·rcases List.mem_cons.1 hq with rfl|hq
   ·exact h _ List.mem_cons_self
   ·exact Znk hx (λq hq=>h q (List.mem_cons_of_mem _ hq)) q hq
theorem Zll(x:κ):∀(m:List (κ×Value))(i:Nat),(ZfZ x m i).map (·.2)=getA x m
 |[],_=>rfl
 |p::m,i=>by
  unfold ZfZ getA
  split
  ·rfl
  ·exact Zll x m (i+1)
theorem Zjn{x:κ}{v:Value}:∀{m:List (κ×Value)}{i:Nat},ZfZ x m i=none->putA x v m=m++[(x,v)]
 |[],_,_=>rfl
 |p::m,i,h=>by
  unfold ZfZ at h
  split at h
  ·cases h
  ·rename_i hn
   simp only[putA,hn,if_false,List.cons_append]
   rw[Zjn h]
theorem Zjm{x:κ}{v u:Value}:∀{m:List (κ×Value)}{i j:Nat},ZfZ x m i=some (j,u)->∃k,j=i+k/\k<m.length/\putA x v m=m.set k (x,v)/\∃y,m[k]? =some (x,y)
 |[],_,_,h=>by cases h
 |p::m,i,j,h=>by
  unfold ZfZ at h
  split at h
  ·rename_i hx
   simp only[Option.some.injEq,Prod.mk.injEq] at h
   subst hx
   exact⟨0,Q0,by simp,by simp[putA],p.2,by simp⟩
  ·rename_i hn
   obtain⟨k,e,hk,hp,y,hy⟩:=Zjm (v:=v) h
   exact⟨k+1,Q0,by simpa using hk,by simp[putA,hn,hp],y,by simpa using hy⟩
end plain
structure Zhv(P:Program)(k:TypeId){κ:Type} [DecidableEq κ](kv:κ->Value)(ok:κ->Prop):Prop where
 check:∀(em:Bool)(w:World)(x:κ),ok x->(Instr.checkKey em 10000 k (kv x)).run P w= .ok () w
 find:∀(w:World)(x:κ)(m:List (κ×Value))(es:List MapEntry),ok x->(∀p∈m,ok p.1)->es.map (λe=>(e.key,e.val))=m.map (λp=>(kv p.1,p.2))->(Instr.findKey k (kv x) es).run P w= .ok (ZfZ x m 0) w
 stays:∀(w:World)(x:κ),ok x->(Instr.keyThatStays (kv x) (kv x)).run P w= .ok (kv x) w
theorem ZkJ(n:Nat)(q:IntKind)(x:Int):Instr.sameBits n (.int q x) (.int q x)=true:=by
 cases n<;>simp[Instr.sameBits]
theorem ZrB{q:IntKind}(hk:P.underlying k=some (.int q))(em:Bool)(w:World)(x:Int)(n:Nat):(Instr.checkKey em (n+1) k (.int q x)).run P w= .ok () w:=by
 simp[Instr.checkKey,run_underlying hk]
theorem ZqM{P:Program}{k:TypeId}{q:IntKind}(hk:P.underlying k=some (.int q)):Zhv P k (Value.int q) (λ_=>True) where
 check em w x _:=ZrB hk em w x 9999
 find w x m es _ _ he:=by
  have key:∀(m:List (Int×Value))(es:List MapEntry)(i:Nat),es.map (λe=>(e.key,e.val))=m.map (λp=>(Value.int q p.1,p.2))->Instr.findNow (.int q) (.int q x) es i=some (ZfZ x m i):=by
   intro m
   induction m with
   |nil=>
    intro es i h
    have:es=[]:=by simpa using h
    subst this
    rfl
   |cons p m ih=>
    intro es i h
    cases es with
    |nil=>simp at h
    |cons e es=>
     simp only[List.map_cons,List.cons.injEq,Prod.mk.injEq] at h
     obtain⟨⟨h1,h2⟩,h3⟩:=h
     simp only[Instr.findNow,h1,Instr.sameNow,if_true,ZfZ,h2]
     by_cases hx:x=p.1
     ·simp[hx]
     ·have:(x==p.1)=false:=by simpa using hx
      rw[this]
      simp only[hx,if_false]
      exact ih es (i+1) h3
  simp[Instr.findKey,run_underlying hk,key m es 0 he]
 stays w x _:=by
  unfold Instr.keyThatStays
  rw[if_pos (ZkJ _ _ _)]
  rfl
theorem Zgb:∀{ks:List LK}{xs:List Value},ZaZ ks xs=true->∀(n:Nat),((xs.zip xs).all λ(x,y)=>Instr.sameBits n x y)=true
 |[],[],_,_=>rfl
 |k::ks,x::xs,h,n=>by
  simp only[ZaZ,Bool.and_eq_true] at h
  simp only[List.zip_cons_cons,List.all_cons,Zgb h.2 n,Bool.and_true]
  cases k<;>cases x<;>simp[fitK] at h<;>cases n<;>simp[Instr.sameBits]
 |[],_::_,h,_=>by cases h
 | _::_,[],h,_=>by cases h
section
variable {P:Program}
theorem vC3(h:p:=by
  simp only[mkT,Zdh,hu,Bool.false_eq_true,if_false,List.headD_cons]
  rw[show e+(d+1)=(e+d)+1 by omega]
  simp[Instr.checkKey,run_underlying hu]):p:=h
theorem Zhb(em:Bool):∀(d:Nat)(t:TypeId)(ks:List LK),Zdp P d t=some ks->∀(e:Nat)(w:World)(xs:List Value),ZaZ ks xs=true->(Instr.checkKey em (e+d) t (mkT P t xs)).run P w= .ok () w
 |0,_,_,h=>by simp[Zdp] at h
 |d+1,t,ks,hk=>by
  intro e w xs hx
  unfold Zdp at hk
  cases hu:P.underlying t with
  |none=>simp[hu] at hk
  |some dsc=>
   rw[hu] at hk
   cases dsc with
   |int k=>
    simp at hk;subst hk
    obtain⟨x,rfl⟩:∃x,xs=[.int k x]:=by
     exact vCp
    exact vC3
   |bool=>
    simp at hk;subst hk
    obtain⟨x,rfl⟩:∃x,xs=[.bool x]:=by
     match xs,hx with
     |[.bool x],_=>exact⟨x,rfl⟩
    exact vC3
   |array n el=>
    simp only at hk
    cases hke:Zdp P d el with
    |none=>simp[hke] at hk
    |some ke=>
     rw[hke] at hk
     simp only at hk
     split at hk
     ·rename_i hc
      simp only[Option.some.injEq] at hk
      subst hk
      obtain⟨i,hi⟩:=Option.isSome_iff_exists.1 hc.2
      obtain⟨lx,fx⟩:=ZgC _ _ _ hx
      simp only[mkT,Zdh,hu,if_true]
      have hsz:i.size=ke.length:=by rw[<-hc.1];simp[Program.cellsOf,hi]
      rw[show e+(d+1)=(e+d)+1 by omega,Instr.checkKey]
      simp only[Sem.run_bind,run_underlying hu,Result.andThen_ok]
      simp only[Std.Legacy.Range.forIn_eq_forIn_range',Std.Legacy.Range.size,Nat.sub_zero,Nat.add_one_sub_one,Nat.div_one]
      have each:∀j∈List.range' 0 n,j<n:=λj hj=>by simp[List.mem_range'] at hj;omega
      generalize List.range' 0 n=is at each
      induction is with
      |nil=>simp
      |cons j is ih=>
       have hjn:=each j Q5
       have hmul:j*ke.length+ke.length<=n*ke.length:=by
        exact vCK
       have p1:=Zdm (w:=w) hke hc.1 (show j*ke.length+ke.length<=xs.length by omega)
       have p2:=Zhb em d el ke hke e w _ (fx j hjn)
       simp only[List.forIn_cons,Sem.run_bind,_root_.Go.run_sizeOf w hi,hc.1,Result.andThen_ok,p1,p2,Sem.run_pure]
       exact ih (λy hy=>each y (by simp[hy]))
     ·cases hk
   |struct fs=>
    simp only at hk
    split at hk
    ·cases hk
    ·simp only[mkT,Zdh,hu,if_true]
     rw[show e+(d+1)=(e+d)+1 by omega,Instr.checkKey]
     simp only[Sem.run_bind,run_underlying hu,Result.andThen_ok]
     rw[<-Array.forIn_toList]
     have key:∀(l:List Field)(off:Nat)(ks:List LK),Zg1 P (Zdp P d) l off=some ks->ZaZ ks (xs.drop off)=true->off<=xs.length->
       (∀f∈l,f.name≠ "_" ∧∃v,(part f.type xs.toArray f.offset).run P w= .ok v w∧(Instr.checkKey em (e+d) f.type v).run P w= .ok () w):=by
      intro l
      induction l with
      |nil=>intro _ _ _ _ _ f hf;simp at hf
      |cons f l ih=>
       intro off ks hl hx ox g hg
       simp only[Zg1] at hl
       split at hl
       ·cases hl
       ·rename_i hno
        have hname:f.name≠ "_" :=fun h=>hno (.inl h)
        have hoff:f.offset=off:=Classical.byContradiction λh=>hno (.inr h)
        cases hkf:Zdp P d f.type with
        |none=>simp[hkf] at hl
        |some kf=>
         rw[hkf] at hl
         simp only at hl
         split at hl
         ·rename_i hc
          cases hr:Zg1 P (Zdp P d) l (off+kf.length) with
          |none=>simp[hr] at hl
          |some kr=>
           simp only[hr,Option.map_some,Option.some.injEq] at hl
           subst hl
           obtain⟨x1,x2⟩:=ZdB hx
           have lx:=Zb7 x1
           simp only[List.length_take,List.length_drop] at lx
           rw[List.drop_drop] at x2
           rcases List.mem_cons.1 hg with rfl|hg
           ·exact⟨hname,_,by rw[hoff];exact Zdm (w:=w) hkf hc (show off+kf.length<=xs.length by omega),Zhb em d g.type kf hkf e w _ x1⟩
           ·exact ih (off+kf.length) kr hr x2 Q0 g hg
         ·cases hl
     have each:=key fs.toList 0 ks hk (by simpa using hx) (Nat.zero_le _)
     generalize fs.toList=L at each
     induction L with
     |nil=>simp
     |cons f L ih=>
      obtain⟨hn,v,p1,p2⟩:=each f Q5
      simp only[List.forIn_cons,Sem.run_bind,hn,ne_eq,not_false_eq_true,if_true,Result.andThen_ok,p1,p2,Sem.run_pure]
      exact ih (λy hy=>each y (by simp[hy]))
   | _=>simp at hk
theorem Zjc{ks:List LK}(ht:eqB P t ks=true){κ:Type} [DecidableEq κ]{ok:κ->Prop}(ec:κ->List Value)(fit:∀x,ok x->ZaZ ks (ec x)=true)(eq:∀x y,ok x->ok y->eqVs (ec x) (ec y)=decide (x=y)):
  Zhv P t (λx:κ=> .agg (ec x).toArray) ok:=by
 simp only[eqB,Bool.and_eq_true,decide_eq_true_eq,Bool.not_eq_true'] at ht
 obtain⟨⟨hl,ha⟩,_⟩:=ht
 refine⟨λem w x hx=>?_,λw x m es hx hm he=>?_,λw x hx=>?_⟩
 ·have:=Zhb em 8 t ks hl 9992 w _ (fit x hx)
  simpa[mkT,ha] using this
 ·have hwide:(match P.underlying t with|some (.array _ _)|some (.struct _)=>true| _=>false)=true:=by
   unfold Zdh at ha
   cases hu:P.underlying t with
   |none=>simp[hu] at ha
   |some dd=>cases dd<;>simp[hu] at ha⊢
  have hfind:(Instr.findKey t (.agg (ec x).toArray) es).run P w=(Instr.findAsking t (.agg (ec x).toArray) es).run P w:=by
   cases hu:P.underlying t with
   |none=>simp[hu] at hwide
   |some kd=>
    cases es with
    |nil=>simp[Instr.findKey,run_underlying hu,Instr.findNow,Instr.findAsking]
    |cons e es=>cases kd<;>simp[hu] at hwide<;>simp[Instr.findKey,run_underlying hu,Instr.findNow,Instr.sameNow]
  rw[hfind]
  clear hfind
  have key:∀(m:List (κ×Value))(es:List MapEntry)(i:Nat),(∀p∈m,ok p.1)->es.map (λe=>(e.key,e.val))=m.map (λp=>(Value.agg (ec p.1).toArray,p.2))->(Instr.findAsking t (.agg (ec x).toArray) es i).run P w= .ok (ZfZ x m i) w:=by
   intro m
   induction m with
   |nil=>
    intro es i _ h
    have:es=[]:=by simpa using h
    subst this
    simp[Instr.findAsking,ZfZ]
   |cons p m ih=>
    intro es i hm h
    cases es with
    |nil=>simp at h
    |cons e es=>
     simp only[List.map_cons,List.cons.injEq,Prod.mk.injEq] at h
     obtain⟨⟨h1,h2⟩,h3⟩:=h
     have hp:=hm p List.mem_cons_self
     have heq:=ZeD 8 t ks hl 9992 w _ _ (fit x hx) (fit p.1 hp)
     simp only[mkT,ha,if_true,eq x p.1 hx hp] at heq
     simp only[Instr.findAsking,h1,h2,Op.equal,Op.maxDepth,Sem.run_bind,heq,Result.andThen_ok,ZfZ]
     by_cases hxp:x=p.1
     ·simp[hxp]
     ·simp only[hxp,decide_false,Bool.false_eq_true,if_false]
      exact ih es (i+1) (λq hq=>hm q (List.mem_cons_of_mem _ hq)) h3
  exact key m es 0 hm he
 ·have:Instr.sameBits 10000 (.agg (ec x).toArray) (.agg (ec x).toArray)=true:=by
   have:=Zgb (fit x hx) 9999
   simp[Instr.sameBits,this]
  simp[Instr.keyThatStays,this]
end
def ZiL{κ:Type}(kv:κ->Value)(m:List (κ×Value))(o:Obj):Prop:=∃es clock,o= .map es clock/\es.toList.map (λe=>(e.key,e.val))=m.map λp=>(kv p.1,p.2)
theorem ZiL.empty{κ:Type}(kv:κ->Value):ZiL kv [] (.map #[] 0):=⟨#[],0,rfl,rfl⟩
def Zhu{κ:Type}(w:World)(kv:κ->Value)(v:Value)(m:List (κ×Value)):Prop:=∃b o,v= .map (some b)/\w.heap[b]? =some o/\ZiL kv m o
theorem Zhu.later{κ:Type}{kv:κ->Value}{m:List (κ×Value)}(h:Zhu W kv v m)(E:Ext [] W w):Zhu w kv v m:=by
 obtain⟨b,o,rfl,hb,h⟩:=h
 exact⟨b,o,rfl,by rw[E.block b (Array.getElem?_eq_some_iff.1 hb).1 Q5];exact hb,h⟩
def OwnM{κ:Type}(kv:κ->Value)(v:Value)(m:List (κ×Value))(ent:EN):Prop:=∃b o,v= .map (some b)/\ent=[(b,o)]/\ZiL kv m o
def Zeb(P:Program)(t:TypeId)(z:Value):Prop:=(P.info? t).bind (·.zero)=some z
theorem Zon{P:Program}{t:TypeId}{z:Value}{w:World}(h:Zeb P t z):(zeroValue t).run P w= .ok z w:=by
 unfold Zeb at h
 cases hi:P.info? t with
 |none=>simp[hi] at h
 |some i=>
  simp[hi] at h
  simp[zeroValue,typeInfo,hi,h]
section
variable {P:Program} {ρ:Operand->Value} {w W0:World} {S:List Nat} {l l':EN} {R:Value->World->Prop} {d:Option Tmp} {ty:TypeId} {pos:String} {af:Array Edge} {g:Option (Nat×Bool)}
variable {κ:Type} [DecidableEq κ] {kv:κ->Value} {ok:κ->Prop}
theorem Zk1{t k e:TypeId}{q:IntKind}{n:Int} [ht:TU P t (.map k e)](M:Mem S W0 w l)(hx:ρ x= .int q n)(h:∀b w',Mem S W0 w' ((b, .map #[] 0)::l)->R (.map (some b)) w'):OpTo P ⟨d, .makeMap t (some x),ty,pos,af,g⟩ ρ w R:=
 OpTo.val (v:= .map (some w.heap.size)) (w':=w.alloc (.map #[] 0)) (by simp[execOp,Instr.makeMap,hx,run_underlying ht.h,asInt,asIntOf,Result.andThen]) (h _ _ (M.alloc _))
theorem Zi3(M:Mem S W0 w l)(h:∀b w',Mem S W0 w' ((b, .map #[] 0)::l)->R (.map (some b)) w'):OpTo P ⟨d, .makeMap t none,ty,pos,af,g⟩ ρ w R:=
 OpTo.val (v:= .map (some w.heap.size)) (w':=w.alloc (.map #[] 0)) (by simp[execOp,Instr.makeMap,Result.andThen]) (h _ _ (M.alloc _))
theorem ZiT{t k e:TypeId}{v z:Value}{m:List (κ×Value)}{c:Bool}(ht:P.underlying t=some (.map k e))(K:Zhv P k kv ok)(hz:Zeb P e z)(hM:Zhu w kv v m)(hm:∀p∈m,ok p.1){x:κ}(hx:ok x):
  (Instr.lookup t v (kv x) c).run P w= .ok (if c then .tuple #[(getA x m).getD z, .bool (getA x m).isSome] else(getA x m).getD z) w:=by
 obtain⟨b,o,rfl,hb,es,clock,rfl,he⟩:=hM
 have hf:=K.find w x m es.toList hx hm he
 rw[<-Zll x m 0]
 cases hr:ZfZ x m 0 with
 |none=>simp[Instr.lookup,run_underlying ht,MapKept.run_getObj_map hb,K.check es.isEmpty w x hx,hf,hr,Zon hz,Result.andThen]
 |some q=>simp[Instr.lookup,run_underlying ht,MapKept.run_getObj_map hb,K.check es.isEmpty w x hx,hf,hr,Result.andThen]
theorem Zh8{t k e:TypeId}{m:List (κ×Value)} [ht:TU P t (.map k e)](K:Zhv P k kv ok)(hz:Zeb P e z)(hM:Zhu w kv v m)(hm:∀p∈m,ok p.1){a:κ}(ha:ok a)(hx:ρ x=v)(hy:ρ y=kv a)
  (h:R (.tuple [(getA a m).getD z, .bool (getA a m).isSome].toArray) w):OpTo P ⟨d, .lookup t x y true,ty,pos,af,g⟩ ρ w R:=
 OpTo.val (v:= .tuple [(getA a m).getD z, .bool (getA a m).isSome].toArray) (w':=w) (by simp[execOp,hx,hy,ZiT (c:=true) ht.h K hz hM hm ha]) h
theorem Zk2{t k e:TypeId}{m:List (κ×Value)} [ht:TU P t (.map k e)](K:Zhv P k kv ok)(hz:Zeb P e z)(hM:Zhu w kv v m)(hm:∀p∈m,ok p.1){a:κ}(ha:ok a)(hx:ρ x=v)(hy:ρ y=kv a)
  (h:R ((getA a m).getD z) w):OpTo P ⟨d, .lookup t x y false,ty,pos,af,g⟩ ρ w R:=
 OpTo.val (v:=(getA a m).getD z) (w':=w) (by simp[execOp,hx,hy,ZiT (c:=false) ht.h K hz hM hm ha]) h
theorem ZjN{t k e:TypeId}{b:Nat}{o:Obj}{u:Value}{m:List (κ×Value)}(ht:P.underlying t=some (.map k e))(K:Zhv P k kv ok)(hb:w.heap[b]? =some o)(hA:ZiL kv m o)(hm:∀p∈m,ok p.1){x:κ}(hx:ok x):
  ∃o',ZiL kv (putA x u m) o'/\(Instr.mapUpdate t (.map (some b)) (kv x) u).run P w= .ok () (w.putObj b o'):=by
 obtain⟨es,clock,rfl,he⟩:=hA
 have hf:=K.find w x m es.toList hx hm he
 have hlen:es.toList.length=m.length:=by simpa using congrArg List.length he
 cases hr:ZfZ x m 0 with
 |none=>
  refine⟨.map (es.push {key:=kv x,val:=u,born:=clock}) (clock+1),⟨_,_,rfl,?_⟩,?_⟩
  ·rw[Zjn hr]
   simp[he]
  ·simp[Instr.mapUpdate,run_underlying ht,MapKept.run_getObj_map hb,K.check false w x hx,hf,hr,MapKept.run_setObj_map _ hb,Result.andThen,World.putObj]
 |some q=>
  obtain⟨j,y⟩:=q
  obtain⟨i,e1,hi,hp,y',hy⟩:=Zjm (v:=u) hr
  rw[Nat.zero_add] at e1
  subst e1
  have hil:j<es.toList.length:=by omega
  have hkey:(es[j]?).map (·.key)=some (kv x):=by
   have h2:(es.toList.map λe=>(e.key,e.val))[j]? =(m.map λp=>(kv p.1,p.2))[j]? :=by rw[he]
   rw[List.getElem?_map,List.getElem?_map,hy] at h2
   simp only[Option.map_some,Option.map_eq_some_iff,Prod.mk.injEq,Array.getElem?_toList] at h2
   obtain⟨e0,h3,h4,_⟩:=h2
   rw[h3,Option.map_some,h4]
  refine⟨.map (es.modify j λe=> {e with key:=kv x,val:=u}) clock,⟨_,_,rfl,?_⟩,?_⟩
  ·rw[hp]
   apply List.ext_getElem?
   intro n
   have h2:(es.toList.map λe=>(e.key,e.val))[n]? =(m.map λp=>(kv p.1,p.2))[n]? :=by rw[he]
   rw[List.getElem?_map,List.getElem?_map] at h2
   rw[List.getElem?_map,List.getElem?_map,Array.toList_modify,List.getElem?_modify,List.getElem?_set]
   split
   ·rename_i h3
    subst h3
    rw[List.getElem?_eq_getElem hil]
    rfl
   ·simpa using h2
  ·simp[Instr.mapUpdate,run_underlying ht,MapKept.run_getObj_map hb,K.check false w x hx,hf,hr,hkey,K.stays w x hx,MapKept.run_setObj_map _ hb,Result.andThen,World.putObj]
theorem ZeT{t k e:TypeId}{x y z:Operand}{m:List (κ×Value)}{f:EN->EN} [ht:TU P t (.map k e)](K:Zhv P k kv ok)(M:Mem S W0 w l)(hO:OwnM kv v m ent)(hl:ZcQ ent l f)(hm:∀p∈m,ok p.1){a:κ}(ha:ok a)
  (hx:ρ x=v) (hy:ρ y=kv a) (hz:ρ z=u) (h:∀ent' w',OwnM kv v (putA a u m) ent'->Mem S W0 w' (f ent')->R undef w'):OpTo P ⟨d, .mapUpdate t x y z,ty,pos,af,g⟩ ρ w R:=by
 obtain⟨lr,rfl,hf⟩:=hl.spec
 obtain⟨b,o,rfl,rfl,hA⟩:=hO
 have hb:=M.at_ (b,o) Q5
 have hlt:b<w.heap.size:=(Array.getElem?_eq_some_iff.1 hb).1
 obtain⟨o',hA',hr⟩:=ZjN (u:=u) ht.h K hb hA hm ha
 refine OpTo.skip (w':=w.putObj b o') (by simp[execOp,hx,hy,hz,hr]) (h [(b,o')] _ ⟨b,o',rfl,rfl,hA'⟩ ?_)
 rw[hf]
 exact M.turned ((Upd.here (l:=[])).append lr) (Ext.putObj w b o') (World.putObj_heap_same hlt)
omit [DecidableEq κ] in
theorem OwnM.at_{m:List (κ×Value)}(h:OwnM kv v m ent)(hb:∀p∈ent,w.heap[p.1]? =some p.2):Zhu w kv v m:=by
 obtain⟨b,o,rfl,rfl,hA⟩:=h
 exact⟨b,o,rfl,hb (b,o) Q5,hA⟩
end
end
section
open Go.RowKit Go.Sort Go.Shelf
theorem Zth(h:Ext [] w w'):∃q os',w'=grow (w.drewN q) os':=by
 refine⟨w'.drawn-w.drawn,w'.heap.extract w.heap.size w'.heap.size,?_⟩
 obtain⟨hp,tp,dr,os,ou⟩:=w'
 obtain⟨h1,h2,h3,h4,h5,h6⟩:=h
 simp only at h1 h2 h3 h4 h5 h6
 subst h1 h2 h3
 simp only[grow,World.drewN]
 congr 1
 ·apply Array.ext'
  apply List.ext_getElem?
  intro i
  simp only[Array.getElem?_toList]
  rcases Nat.lt_or_ge i w.heap.size with h|h
  ·rw[Array.getElem?_append_left h]
   exact h6 i h Q5
  ·rw[Array.getElem?_append_right h,Array.getElem?_extract]
   split
   ·rename_i h7
    congr 1
    omega
   ·rename_i h7
    exact Array.getElem?_eq_none Q0
 ·omega
theorem ZnY{α:Type}{enc:α->List Value}{k:Nat}(hk:∀x,(enc x).length=k)(h0:0<k):∀(ls:List α)(j:Nat),j<ls.length*k->(encL enc ls)[j]? =(ls[j/k]?).bind λx=>(enc x)[j % k]?
 |[],j,h=>by simp at h
 |x::xs,j,h=>by
  rw[Zcf]
  rcases Nat.lt_or_ge j k with hj|hj
  ·rw[List.getElem?_append_left (by rw[hk];exact hj),Nat.div_eq_of_lt hj,Nat.mod_eq_of_lt hj]
   rfl
  ·have e1:j/k=(j-k)/k+1:=by
    rw[show j=(j-k)+k by omega,Nat.add_div_right _ h0]
    simp
   have e2:j % k=(j-k) % k:=by
    rw[show j=(j-k)+k by omega,Nat.add_mod_right]
    simp
   rw[List.getElem?_append_right (by rw[hk];exact hj),hk,e1,e2,ZnY hk h0 xs (j-k) (by simp only[List.length_cons,Nat.add_mul] at h;omega)]
   simp
theorem ZnT{α:Type} [Inhabited α]{enc:α->List Value}{k:Nat}(hk:∀x,(enc x).length=k)(h0:0<k)(d:Array α):(flatK enc k d).toList=encL enc d.toList:=by
 have hl:(encL enc d.toList).length=d.size*k:=by rw[Za2 (λx _=>hk x)];simp
 apply List.ext_getElem?
 intro j
 rcases Nat.lt_or_ge j (d.size*k) with h|h
 ·have hd:j/k<d.size:=Nat.div_lt_of_lt_mul (by rwa[Nat.mul_comm] at h)
  have hm:j % k<k:=Nat.mod_lt _ h0
  rw[ZnY hk h0 _ _ (by simpa using h)]
  simp only[flatK,Array.toList_map,Array.toList_range]
  rw[List.getElem?_map,List.getElem?_range h]
  simp only[Option.map_some,Array.getElem?_toList]
  rw[Array.getElem?_eq_getElem hd]
  simp only[Option.bind_some]
  rw[getElem!_pos d (j/k) hd,getElem!_pos (enc d[j/k]) (j % k) (by rw[hk];exact hm),List.getElem?_eq_getElem (by rw[hk];exact hm)]
 ·rw[List.getElem?_eq_none (by simpa using h),List.getElem?_eq_none Q0]
section
variable {α:Type} [Inhabited α] {P:Program} {ρ:Ren} {enc:α->List Value} {k:Nat}
theorem Ztv{g:Nat}{cf:α->α->Int}{blk off size:Nat}(h:∀(W:World)(x y:α),Cal P g [.agg (enc x).toArray, .agg (enc y).toArray].toArray W λv w'=>v= .int .i64 (cf x y)/\Ext [] W w'):CmpLays P g #[] enc k cf blk off size w:=by
 intro m os dk _ x y
 refine((h (sortWorldK enc k w blk off m dk os) x y).calls).mono ?_
 rintro e w' ⟨v,rfl,rfl,hE⟩
 exact⟨rfl,Zth hE⟩
theorem ZjH(L:SlLaysF0.n6 P ρ)(hk:∀x,(enc x).length=k)(h0:0<k)(h1:∀x,(enc x).all (·.oneCell')=true)(haE:ZmO P (ρ.t 24) k=true)(cf:α->α->Int)(hO:SWO (ltOf cf))(hT:∀x y,ltOf cf x y=false->ltOf cf y x=false->x=y){g:Nat}(hg:Zj6 P g=true)
  (hcmp:∀(W:World)(x y:α),Cal P g [.agg (enc x).toArray, .agg (enc y).toArray].toArray W λv w'=>v= .int .i64 (cf x y)/\Ext [] W w')
     {f:EN->EN} {e:TypeId}  (ls:List α)  (M:Mem S W0 w l) (hOw:OwnS e k v ls.length (encL enc ls) ent) (hl:ZcQ ent l f) (hsz:ls.length<4611686018427387904):
  Cal P (ρ.f 6) [v, .func (.func g) #[] #[]].toArray w λ_ w'=>∃ent',OwnS e k v ls.length (encL enc (ls.mergeSort λx y=> !(ltOf cf) y x)) ent'/\Mem S W0 w' (f ent'):=by
 obtain⟨lr,rfl,hf⟩:=hl.spec
 rcases hOw with⟨rfl,hn,_,rfl⟩|⟨b,cap,junk,rfl,rfl,hxl,hjl,hnc⟩
 ·have hls:ls=[]:=List.length_eq_zero_iff.1 hn
  subst hls
  refine Cal.of_calls (AnyF.slices_SortFunc_none L none 0 (.func (.func g) #[] #[]) w) ?_
  rintro e' w' ⟨rfl,rfl⟩
  exact⟨_,rfl,[],by simpa[encL] using OwnS.nil e k,by rw[hf];exact M⟩
 ·have hb:w.heap[b]? =some (.cells (encL enc ls++junk).toArray e (0,0)):=M.at_ (b,_) Q5
  have hlt:b<w.heap.size:=(Array.getElem?_eq_some_iff.1 hb).1
  have hH:HoldsK enc k w b 0 ls.toArray:=by
   intro j hj
   rw[size_flatK] at hj
   simp only[List.size_toArray] at hj
   have hfl:=ZnT hk h0 ls.toArray
   have hjf:j<(flatK enc k ls.toArray).size:=by rw[size_flatK];simpa using hj
   refine⟨?_,by simp[World.frozen?,hb]⟩
   rw[getElem!_pos _ j hjf]
   simp only[World.cell?,hb,id]
   rw[if_neg Q5,Nat.zero_add,List.getElem?_toArray,List.getElem?_append_left (by rw[hxl];exact hj)]
   have h2:(flatK enc k ls.toArray).toList[j]? =(encL enc ls)[j]? :=by rw[hfl]
   rw[<-h2,Array.getElem?_toList,Array.getElem?_eq_getElem hjf]
  have hagg:∀w,(isAgg (ρ.t 24)).run P w= .ok true w:=λw=>Zgd haE
  have hszo:∀w,(sizeOf (ρ.t 24)).run P w= .ok k w:=λw=>Zdv haE
  have hcon:=AnyQ.slices_SortFunc_total L k hagg hszo enc hk (λx v hv=>List.all_eq_true.1 (h1 x) v hv) cf hO g #[] b 0 cap ls.toArray w (λargs w=>Zfb hg args w) (Ztv hcmp) hH hlt (by simpa using hsz) hT
  simp only[List.size_toArray] at hcon
  refine Cal.of_calls hcon ?_
  rintro e' w' ⟨rfl,n,os,rfl⟩
  refine⟨_,rfl,[(b, .cells (encL enc (ls.mergeSort λx y=> !(ltOf cf) y x)++junk).toArray e (0,0))], .inr ⟨b,cap,junk,rfl,rfl,by rw[Za2 (λx _=>hk x)];simp,hjl,hnc⟩,?_⟩
  rw[hf]
  obtain⟨ds,hds⟩:∃ds,ds=ls.mergeSort λx y=> !(ltOf cf) y x:=⟨_,rfl⟩
  rw[<-hds]
  have hdl:ds.length=ls.length:=by rw[hds];simp
  clear hcon hH
  have hcells:putCells id 0 (flatK enc k ds.toArray) (encL enc ls++junk).toArray=(encL enc ds++junk).toArray:=by
   have hfl:=ZnT hk h0 ds.toArray
   have hfs:(flatK enc k ds.toArray).size=ls.length*k:=by rw[size_flatK];simp[hdl]
   have hel:(encL enc ds).length=ls.length*k:=by rw[Za2 (λx _=>hk x),hdl]
   apply Array.ext'
   apply List.ext_getElem?
   intro i
   simp only[putCells,Array.getElem?_toList,Array.getElem?_mapIdx,List.getElem?_toArray]
   rcases Nat.lt_or_ge i (ls.length*k) with hi|hi
   ·rw[List.getElem?_append_left Q0,List.getElem?_append_left Q0,List.getElem?_eq_getElem (show i<(encL enc ls).length by omega)]
    simp only[Option.map_some]
    rw[if_pos ⟨Nat.zero_le _,Q0⟩,Nat.sub_zero,getElem!_pos _ i Q0]
    have h2:(flatK enc k ds.toArray).toList[i]? =(encL enc ds)[i]? :=by rw[hfl]
    rw[<-h2,Array.getElem?_toList,Array.getElem?_eq_getElem Q0]
    rfl
   ·rw[List.getElem?_append_right Q0,List.getElem?_append_right Q0,hxl,hel]
    cases hjv:junk[i-ls.length*k]? with
    |none=>rfl
    |some z=>
     simp only[Option.map_some]
     rw[if_neg Q0]
  have hnew:(sortWorldK enc k w b 0 n ds.toArray os).heap[b]? =some (.cells (encL enc ds++junk).toArray e (0,0)):=by
   have hs:b<(putRowK enc k (Go.Sort.ahead w n) b 0 ds.toArray).heap.size:=by simpa[putRowK,Go.Sort.ahead] using hlt
   simp only[sortWorldK,grow]
   rw[Array.getElem?_append_left hs]
   simp only[putRowK,putRow,mapBlock,Go.Sort.ahead]
   rw[Array.getElem?_modify]
   simp only[if_true,hb,Option.map_some,onCells,hcells]
  have hext:Ext [b] w (sortWorldK enc k w b 0 n ds.toArray os):=by
   refine⟨rfl,rfl,rfl,?_,?_,λj hj hne=>?_⟩
   ·simp[sortWorldK,grow,putRowK,putRow,mapBlock,Go.Sort.ahead]
   ·simp[sortWorldK,grow,putRowK,putRow,mapBlock,Go.Sort.ahead]
   ·have hs:j<(putRowK enc k (Go.Sort.ahead w n) b 0 ds.toArray).heap.size:=by simpa[putRowK,Go.Sort.ahead] using hj
    simp only[sortWorldK,grow]
    rw[Array.getElem?_append_left hs]
    simp only[putRowK,putRow,mapBlock,Go.Sort.ahead]
    rw[Array.getElem?_modify,if_neg (by intro h;exact hne (by simp[h]))]
  exact M.turned ((Upd.here (l:=[])).append lr) hext hnew
end
end
section
section
variable {P:Program} {ρ:Operand->Value} {w W0:World} {S:List Nat} {l l':EN} {R:Value->World->Prop} {d:Option Tmp} {ty:TypeId} {pos:String} {af:Array Edge} {g:Option (Nat×Bool)}
theorem Zda{t t' e:TypeId}{p:Option Addr}{n c:Nat}(hx:ρ x= .slice p n c)(hy:ρ y= .slice none 0 0) [ht:TU P t (.slice e)](h:R (.bool p.isNone) w):OpTo P ⟨d, .binOp .eql t x y t',ty,pos,af,g⟩ ρ w R:=by
 have hr0:∀k:Nat,(Op.equalIn (k+1) t (.slice p n c) (.slice none 0 0)).run P w= .ok p.isNone w:=λk=>by
  cases p<;>simp[Op.equalIn,run_underlying ht.h]
 have hr:=hr0 9999
 exact OpTo.val (v:= .bool p.isNone) (w':=w) (by simp[execOp,eqGuard,binOp,Op.equal,Op.maxDepth,hx,hy,hr]) h
theorem Zqs{st xt e:TypeId}{sz by_ b n cap:Nat} [hst:TU P st (.slice e)] [hel:TEl P e sz by_] [hxt:TNI P xt](hx:ρ x= .slice (some ⟨b,0,none⟩) n cap)(hy:ρ y=xv)(hnc:n<=cap)(hX:Zcc P w xv 0 sz [])
  (h:R (.slice (some ⟨b,0,none⟩) n cap) w):OpTo P ⟨d, .call ⟨.builtin .append, #[x,y], #[st,xt]⟩,ty,pos,af,g⟩ ρ w R:=by
 obtain⟨i,z,hi,rfl,rfl,hz,hzs⟩:=ZhI hel.h
 have hrun:=ZdE (tyy:=ty) (b:=b) (n:=n) (cap:=cap) (w':=w) hst.h hi (ZfU hxt.h) hX.len Q0 (hX.cells w.drawn) (by simp[storeCells])
 exact OpTo.val (v:= .slice (some ⟨b,0,none⟩) (n+0) cap) (w':=w) (by simp[execOp,resolve,invoke,builtin,hx,hy,hrun]) h
end
theorem Zd8{b:Bool}(F:Frm a n df fr)(t:Nat)(h:look fr t=some (.bool b))(ht:b=true->p)(hf:b=false->p):p:=by
 cases b
 ·exact hf rfl
 ·exact ht rfl
theorem Zbx{x y:Int}(h:(x !=y)=true):x≠y:=bne_iff_ne.1 h
theorem ZaJ{x y:Int}(h:(x !=y)=false):x=y:=by simpa using h
theorem Zaa{b:Bool}(h:(!b)=true):b=false:=by cases b<;>simp_all
theorem Zab{b:Bool}(h:(!b)=false):b=true:=by cases b<;>simp_all
section
variable {P:Program} {ρ:Operand->Value} {w W0:World} {S:List Nat} {l l':EN} {R:Value->World->Prop} {d:Option Tmp} {ty:TypeId} {pos:String} {af:Array Edge} {g:Option (Nat×Bool)}
theorem Zd5{α:Type}{enc:α->List Value}{out:List α}{x0:α}{st xt e:TypeId}{sz by_:Nat}{f:EN->EN} [hst:TU P st (.slice e)] [hel:TEl P e sz by_] [hxt:TNI P xt](hO:OwnS e sz v out.length (encL enc out) ent)(M:Mem S W0 w l)(hl:ZcQ ent l f)
  (hx:ρ x=v) (hy:ρ y=xv) (hX:Zcc P w xv 1 sz (enc x0)) (hbd:(out.length+1)*by_<=140737488355328)
  (h:∀v' ent' w',OwnS e sz v' (out++[x0]).length (encL enc (out++[x0])) ent'->Mem S W0 w' (f ent')->R v' w') (hln:out.length+1<=9223372036854775807:=by first|omega|(simp only[List.length_append,List.length_singleton];omega)):OpTo P ⟨d, .call ⟨.builtin .append, #[x,y], #[st,xt]⟩,ty,pos,af,g⟩ ρ w R:=by
 refine Zck hO M hl hx hy hX hbd hln λv' ent' w' hO' M'=>h v' ent' w' ?_ M'
 rw[ZbC,Zdd,List.length_append,List.length_singleton]
 exact hO'
theorem Zl7{ks:List LK}{b:Bool} [ht:TEq P t ks](hx:ρ x= .agg xs.toArray)(hy:ρ y= .agg ys.toArray)(fx:ZaZ ks xs=true)(fy:ZaZ ks ys=true)(he:eqVs xs ys=b)(h:R (.bool b) w):OpTo P ⟨d, .binOp .eql t x y t',ty,pos,af,g⟩ ρ w R:=Zi5 hx hy fx fy (by rw[he];exact h)
theorem Zqp{ks:List LK}{b:Bool} [ht:TEq P t ks](hx:ρ x= .agg xs.toArray)(hy:ρ y= .agg ys.toArray)(fx:ZaZ ks xs=true)(fy:ZaZ ks ys=true)(he:eqVs xs ys=b)(h:R (.bool !b) w):OpTo P ⟨d, .binOp .neq t x y t',ty,pos,af,g⟩ ρ w R:=Znv hx hy fx fy (by rw[he];exact h)
theorem ZjV{t e e':TypeId}(hx:ρ x=v)(hO:OwnS e' sz v n xs ent) [ht:TU P t (.slice e)](h:R (.int .i64 n) w):OpTo P ⟨d, .call ⟨.builtin .len, #[x], #[t]⟩,ty,pos,af,g⟩ ρ w R:=by
 obtain⟨p,c,rfl⟩:=hO.slice
 exact Zl6 hx h
end
theorem SlAt.memB{q:Option Addr}(h:SlAt W sz (.slice q n cap) n cs)(S:List Nat)(hn:∀b o s,q=some ⟨b,o,s⟩->b∉S):0<n->∃b o xs t fz,q=some ⟨b,o,none⟩/\(∀w',Ext S W w'->w'.heap[b]? =some (.cells (List.toArray xs) t fz))/\seg xs o (n*sz)=some cs:=by
 obtain⟨p,cap',e,_,_,_,h5⟩:=h
 cases e
 intro h0
 obtain⟨b,o,xs,t,fz,rfl,hb,hs⟩:=h5 h0
 refine⟨b,o,xs,t,fz,rfl,λw' E=>?_,hs⟩
 rw[E.block b (Array.getElem?_eq_some_iff.1 hb).1 (hn b o none rfl)]
 exact hb
section
variable {α:Type} (c:α->Int) (x:α)
def Zbv:Bool->List α->List α
 |done,[]=>if done then [] else [x]
 |done,y::l=>(if decide (0<=c y)&& !done then [x] else [])++((if c y=0 then [] else [y])++Zbv (done||decide (0<=c y)) l)
theorem Zcv{y:α}{l:List α}:Zbv c x done (y::l)=(if decide (0<=c y)&& !done then [x] else [])++((if c y=0 then [] else [y])++Zbv c x (done||decide (0<=c y)) l):=by
 conv=>lhs;unfold Zbv
theorem ZdX:Zbv c x done []=if done then [] else [x]:=rfl
theorem Zg0:∀{done:Bool}{l:List α},(Zbv c x done l).length<=l.length+(if done then 0 else 1)
 |done,[]=>by
  rw[ZdX]
  cases done<;>simp
 |done,y::l=>by
  rw[Zcv]
  have:=Zg0 (done:=done||decide (0<=c y)) (l:=l)
  generalize decide (0<=c y)=g at*
  have h1:(if c y=0 then [] else [y]).length<=1:=by split<;>simp
  generalize(if c y=0 then [] else [y])=ys at*
  rw[List.length_append,List.length_append,List.length_cons]
  cases done<;>cases g<;>simp at this⊢<;>omega
theorem Zid{l:List α}(ha:l.Pairwise λa b=>0<=c a->0<c b){done:Bool}:Zbv c x done l=l.filter (λy=>decide (c y<0))++((if done then [] else [x])++l.filter (λy=>decide (0<c y))):=by
 induction l generalizing done with
 |nil=>rw[ZdX];simp
 |cons y l ih=>
  obtain⟨h1,h2⟩:=List.pairwise_cons.1 ha
  rw[Zcv,ih h2]
  rcases Int.lt_trichotomy (c y) 0 with hc|hc|hc
  ·rw[dqF (show ¬0<=c y by omega),if_neg (show ¬c y=0 by omega),List.filter_cons_of_pos (by simpa using hc),List.filter_cons_of_neg (by simp;omega)]
   simp
  ·have hl:l.filter (λy=>decide (c y<0))=[]:=by
    rw[List.filter_eq_nil_iff]
    intro z hz
    have:=h1 z hz Q0
    simp
    omega
   rw[dqT (show 0<=c y by omega),if_pos hc,List.filter_cons_of_neg (by simp;omega),List.filter_cons_of_neg (by simp;omega),hl]
   cases done<;>simp
  ·have hl:l.filter (λy=>decide (c y<0))=[]:=by
    rw[List.filter_eq_nil_iff]
    intro z hz
    have:=h1 z hz Q0
    simp
    omega
   rw[dqT (show 0<=c y by omega),if_neg (show ¬c y=0 by omega),List.filter_cons_of_neg (by simp;omega),List.filter_cons_of_pos (by simpa using hc),hl]
   cases done<;>simp
end
def ZoH(P:Program)(t:TypeId):Bool:=match P.underlying t with|some (.slice _)=>true| _=>false
structure Cx where
 P:Program
 r:Option Nat
 n:Nat
 df:List Deferred
 S:List Nat
 W:World
 flds:List (Nat×Nat×Nat)
 slcs:List Nat
 hf:(flds.all λq=>ZdU P q.1 q.2.1 q.2.2)=true
 hs:(slcs.all λt=>ZoH P t)=true
inductive KF
 |seq (y:Code)
 |blk (id:Nat)
inductive St
 |code (x:Code)
 |ops (all:Array Oper) (rest:List Oper)
 |ext (e:Exit)
def KQ(c:Cx)(Q:Exit->Act->World->Prop):List KF->Exit->Act->World->Prop
 |[]=>Q
 | .seq y::ks=>Exit.then (Wp c.r c.P y (KQ c Q ks)) (KQ c Q ks)
 | .blk id::ks=>Exit.inBlock id (KQ c Q ks)
def GS(c:Cx)(Q:Exit->Act->World->Prop)(ks:List KF):St->Act->World->Prop
 | .code x=>Wp c.r c.P x (KQ c Q ks)
 | .ops all rest=>wpListIn (FW c.r) 0 c.P all (KQ c Q ks) rest
 | .ext e=>KQ c Q ks e
abbrev Row:=List EN
def G(c:Cx)(Q:Exit->Act->World->Prop)(ks:List KF)(st:St)(fr:FN)(l:Row):Prop:=
 ∀a w,Frm a c.n c.df fr->Mem c.S c.W w l.flatten->GS c Q ks st a w
def Zrc:List (Nat×Nat×Nat)->Nat->Nat->Option Nat
 |[],_,_=>none
 |(s,i,o)::r,t,j=>match Nat.beq s t&&Nat.beq i j with
  |true=>some o
  |false=>Zrc r t j
theorem ZnS{P:Program}:∀{l:List (Nat×Nat×Nat)}{t j o:Nat},(l.all λq=>ZdU P q.1 q.2.1 q.2.2)=true->Zrc l t j=some o->ZdU P t j o=true
 |[],_,_,_,_,h=>by simp[Zrc] at h
 |(s,i,q)::r,t,j,o,ha,h=>by
  simp only[List.all_cons,Bool.and_eq_true] at ha
  unfold Zrc at h
  split at h
  ·rename_i hb
   simp only[Bool.and_eq_true] at hb
   obtain rfl:=Nat.eq_of_beq_eq_true hb.1
   obtain rfl:=Nat.eq_of_beq_eq_true hb.2
   cases h
   exact ha.1
  ·exact ZnS ha.2 h
def memN:List Nat->Nat->Bool
 |[],_=>false
 |s::r,t=>match Nat.beq s t with
  |true=>true
  |false=>memN r t
theorem ZqB:∀{l:List Nat}{t:Nat},memN l t=true->t∈l
 |[],_,h=>by simp[memN] at h
 |s::r,t,h=>by
  unfold memN at h
  split at h
  ·rename_i hb
   simp[Nat.eq_of_beq_eq_true hb]
  ·exact List.mem_cons_of_mem _ (ZqB h)
def kEq:IntKind->IntKind->Bool
 | .i8, .i8| .i16, .i16| .i32, .i32| .i64, .i64| .u8, .u8| .u16, .u16| .u32, .u32| .u64, .u64=>true
 | _,_=>false
theorem ZyM{a b:IntKind}(h:kEq a b=true):a=b:=by
 cases a<;>cases b<;>first|rfl|cases h
def Zzr:BinOp->Int->Int->Option Bool
 | .lss,m,n=>some (decide (m<n))
 | .leq,m,n=>some (decide (m<=n))
 | .gtr,m,n=>some (decide (n<m))
 | .geq,m,n=>some (decide (n<=m))
 | .eql,m,n=>some (m==n)
 | .neq,m,n=>some (m !=n)
 | _,_,_=>none
def ZwG(b:BinOp):Value->Value->Option Value
 | .int k m, .int k' n=>match kEq k k' with
  |true=>match Zzr b m n with
   |some v=>some (.bool v)
   |none=>none
  |false=>none
 | _,_=>none
def evO(c:Cx)(fr:FN):Op->Option Value
 | .move x=>Ev fr x
 | .assign x=>Ev fr x
 | .extract x i=>match Ev fr x with
  |some (.tuple vs)=>nth vs.toList i
  | _=>none
 | .fieldAddr s x i=>match Ev fr x with
  |some (.pointer (some ⟨b,o,none⟩))=>match Zrc c.flds s i with
   |some off=>some (.pointer (some ⟨b,o+off,none⟩))
   |none=>none
  | _=>none
 | .unOp .not _ x=>match Ev fr x with
  |some (.bool b)=>some (.bool (!b))
  | _=>none
 | .binOp b _ x y _=>match Ev fr x with
  |some v=>match Ev fr y with
   |some u=>ZwG b v u
   |none=>none
  |none=>none
 | .pick q x y=>match Ev fr q with
  |some (.bool true)=>match Ev fr y with
   |some _=>Ev fr x
   |none=>none
  |some (.bool false)=>match Ev fr x with
   |some _=>Ev fr y
   |none=>none
  | _=>none
 | .call q=>match q.callee with
  | .builtin .len=>match q.args.toList with
   |[x]=>match q.argTypes.toList with
    |[t]=>match Ev fr x with
     |some (.slice _ n _)=>match memN c.slcs t with
      |true=>some (.int .i64 n)
      |false=>none
     | _=>none
    | _=>none
   | _=>none
  | _=>none
 | _=>none
def gOk(all:Array Oper)(fr:FN):Option (Nat×Bool)->Option Bool
 |none=>some true
 |some (j,b)=>match (all[j]?).bind (·.dst) with
  |some t=>match look fr t with
   |some (.bool true)=>some b
   |some (.bool false)=>some (!b)
   |some (.tuple _)=>some false
   | _=>none
  |none=>none
def run1(c:Cx):List KF->St->FN->Option (List KF×St×FN)
 |ks, .ops all [],fr=>some (ks, .ext .normal,fr)
 |ks, .ops all (o::rest),fr=>match o.dst with
  |some d=>match Nat.blt d c.n with
   |true=>match gOk all fr o.guard with
    |some true=>match evO c fr o.op with
     |some v=>some (ks, .ops all rest,(d,v)::fr)
     |none=>none
    |some false=>some (ks, .ops all rest,(d,undef)::fr)
    |none=>none
   |false=>none
  |none=>none
 |ks, .code x,fr=>match x with
  | .skip=>some (ks, .ext .normal,fr)
  | .region _ ops false=>some (ks, .ops ops ops.toList,fr)
  | .seq x y=>some (.seq y::ks, .code x,fr)
  | .block id x=>some (.blk id::ks, .code x,fr)
  | .exit id=>some (ks, .ext (.exit id),fr)
  | .ret=>some (ks, .ext .ret,fr)
  | .cond o x y=>match Ev fr o with
   |some (.bool true)=>some (ks, .code x,fr)
   |some (.bool false)=>some (ks, .code y,fr)
   | _=>none
  | _=>none
 | .seq y::ks, .ext e,fr=>match e with
  | .normal=>some (ks, .code y,fr)
  | .exit id=>some (ks, .ext (.exit id),fr)
  | .ret=>some (ks, .ext .ret,fr)
  | _=>none
 | .blk id::ks, .ext e,fr=>match e with
  | .normal=>some (ks, .ext .normal,fr)
  | .exit id'=>match Nat.beq id' id with
   |true=>some (ks, .ext .normal,fr)
   |false=>some (ks, .ext (.exit id'),fr)
  | .ret=>some (ks, .ext .ret,fr)
  | _=>none
 |[], .ext _,_=>none
def runN(c:Cx):Nat->List KF->St->FN->List KF×St×FN
 |0,ks,st,fr=>(ks,st,fr)
 |k+1,ks,st,fr=>match run1 c ks st fr with
  |some (ks',st',fr')=>runN c k ks' st' fr'
  |none=>(ks,st,fr)
theorem Ztj{b:BinOp}{ρ:Operand->Value}{d:Option Tmp}
  (h:ZwG b (ρ x) (ρ y)=some v) (hR:R v w):OpTo P ⟨d, .binOp b t x y t',ty,pos,af,g⟩ ρ w R:=by
 unfold ZwG at h
 split at h
 ·rename_i k m k' n hx hy
  split at h
  ·rename_i hk
   obtain rfl:=ZyM hk
   split at h
   ·rename_i q hq
    cases h
    cases b<;>simp only[Zzr,Option.some.injEq] at hq<;>first|cases hq|subst hq
    all_goals first|exact ZsF hx hy hR|exact ZsH hx hy hR|exact ZsI hx hy hR|exact ZsJ hx hy hR|exact ZsL hx hy hR|exact ZsE hx hy hR
   ·cases h
  ·cases h
 ·cases h
theorem Zjt{c:Cx}{d:Option Tmp}
  (F:Frm a n df fr) (h:evO c fr op=some v) (hR:R v w):OpTo c.P ⟨d,op,ty,pos,af,g⟩ a.eval w R:=by
 unfold evO at h
 split at h
 ·exact Zgm (F.e h) hR
 ·exact ZeU (F.e h) hR
 ·split at h
  ·rename_i vs hx
   exact Zey (vs:=vs.toList) (by simpa using F.e hx) h hR
  ·cases h
 ·split at h
  ·rename_i b o hx
   split at h
   ·rename_i off hf
    cases h
    haveI:TFld c.P _ _ off:=⟨ZnS c.hf hf⟩
    exact Zh9 (F.e hx) hR
   ·cases h
  ·cases h
 ·split at h
  ·rename_i b hx
   cases h
   exact Zyo (F.e hx) hR
  ·cases h
 ·split at h
  ·rename_i v1 hx
   split at h
   ·rename_i v2 hy
    rw[<-F.e hx,<-F.e hy] at h
    exact Ztj h hR
   ·cases h
  ·cases h
 ·split at h
  ·rename_i hq
   split at h
   ·rename_i u hy
    exact Zqo (F.e hq) (F.e h) (F.e hy) (by simpa using hR)
   ·cases h
  ·rename_i hq
   split at h
   ·rename_i u hx
    exact Zqo (F.e hq) (F.e hx) (F.e h) (by simpa using hR)
   ·cases h
  ·cases h
 ·rename_i q
  obtain⟨callee,args,tys⟩:=q
  split at h
  ·rename_i hc
   split at h
   ·rename_i x hx1
    split at h
    ·rename_i t ht1
     split at h
     ·rename_i p k q hx
      split at h
      ·rename_i hm
       cases h
       dsimp only at hc hx1 ht1
       subst hc
       obtain rfl:args= #[x]:=by cases args;simp_all
       obtain rfl:tys= #[t]:=by cases tys;simp_all
       have h1:=List.all_eq_true.1 c.hs _ (ZqB hm)
       unfold ZoH at h1
       split at h1
       ·rename_i e he
        haveI:TU c.P _ (.slice e):=⟨he⟩
        exact Zl6 (F.e hx) hR
       ·cases h1
      ·cases h
     ·cases h
    ·cases h
   ·cases h
  ·cases h
 ·cases h
theorem evO_plain{c:Cx}(h:evO c fr op=some v):Zd3 op=true:=by
 cases op<;>first|rfl|(simp[evO] at h)
section
variable {c:Cx} {Q:Exit->Act->World->Prop} {ks ks':List KF} {st st':St} {fr fr':FN} {l:Row}
theorem ZfE{all:Array Oper}(h:gOk all fr g=some true):g=none∨∃j b t,g=some (j,b)/\(all[j]?).bind (·.dst)=some t/\look fr t=some (.bool b):=by
 unfold gOk at h
 split at h
 ·exact .inl rfl
 ·rename_i j b
  split at h
  ·rename_i t ht
   split at h
   ·rename_i hl
    cases h
    exact .inr ⟨j,true,t,rfl,ht,hl⟩
   ·rename_i hl
    have:b=false:=by cases b<;>simp_all
    subst this
    exact .inr ⟨j,false,t,rfl,ht,hl⟩
   ·cases h
   ·cases h
  ·cases h
theorem Zin{all:Array Oper}(h:gOk all fr g=some false):∃j b t v,g=some (j,b)/\(all[j]?).bind (·.dst)=some t/\look fr t=some v/\ZeS b v=true:=by
 unfold gOk at h
 split at h
 ·cases h
 ·rename_i j b
  split at h
  ·rename_i t ht
   split at h
   ·rename_i hl
    cases h
    exact⟨j,false,t,_,rfl,ht,hl,rfl⟩
   ·rename_i hl
    have:b=true:=by cases b<;>simp_all
    subst this
    exact⟨j,true,t,_,rfl,ht,hl,rfl⟩
   ·rename_i vs hl
    exact⟨j,b,t,_,rfl,ht,hl,rfl⟩
   ·cases h
  ·cases h
theorem g_op{all:Array Oper}{d:Nat}{rest:List Oper}(hp:Zd3 op=true)(hd:Nat.blt d c.n=true)(hg:gOk all fr g=some true)
  (h:∀a w,Frm a c.n c.df fr->Mem c.S c.W w l.flatten->OpTo c.P ⟨some d,op,ty,pos,af,g⟩ a.eval w λv w'=>∀a',Frm a' c.n c.df ((d,v)::fr)->GS c Q ks (.ops all rest) a' w'):
  G c Q ks (.ops all (⟨some d,op,ty,pos,af,g⟩::rest)) fr l:=λa w F M=>by
 rcases ZfE hg with rfl|⟨j,b,t,rfl,ht,hl⟩
 ·exact Zr4 hp F hd (h a w F M)
 ·exact Zr3 hp F hd ht hl (h a w F M)
theorem vCD(h:p:=by
  cases h
  exact λa w F M=>hk a w F M):p:=h
theorem Zvl(h:run1 c ks st fr=some (ks',st',fr'))(hk:G c Q ks' st' fr' l):G c Q ks st fr l:=by
 unfold run1 at h
 split at h
 ·rename_i all
  cases h
  exact λa w F M=>(ZdS (hk a w F M):wpListIn (FW c.r) 0 c.P all (KQ c Q ks) [] a w)
 ·rename_i all o rest
  obtain⟨dst,op,ty,pos,af,g⟩:=o
  cases dst with
  |none=>cases h
  |some d=>
   simp only at h
   split at h
   ·rename_i hd
    split at h
    ·rename_i hg
     split at h
     ·rename_i v hv
      cases h
      exact g_op (evO_plain hv) hd hg λa w F M=>Zjt F hv λa' F'=>hk a' w F' M
     ·cases h
    ·rename_i hg
     cases h
     obtain⟨j,b,t,v,rfl,ht,hl,ho⟩:=Zin hg
     exact λa w F M=>Zpm F hd ht hl ho λa' F'=>hk a' w F' M
    ·cases h
   ·cases h
 ·split at h
  ·cases h
   exact λa w F M=>ZrD (hk a w F M)
  ·rename_i id ops
   cases h
   intro a w F M
   have:=ZdV (id:=id) (hk a w F M)
   simpa[GS] using this
  ·cases h
   exact λa w F M=>Zea (hk a w F M)
  ·cases h
   exact λa w F M=>ZmH (hk a w F M)
  ·cases h
   exact λa w F M=>ZuE (hk a w F M)
  ·cases h
   exact λa w F M=>ZiK (hk a w F M)
  ·split at h
   ·rename_i ho
    cases h
    exact λa w F M=>ZrC F ho rfl (hk a w F M)
   ·rename_i ho
    cases h
    exact λa w F M=>ZmF F ho rfl (hk a w F M)
   ·cases h
  ·cases h
 ·split at h
  ·exact vCD
  ·exact vCD
  ·exact vCD
  ·cases h
 ·split at h
  ·exact vCD
  ·split at h
   ·rename_i hb
    cases h
    obtain rfl:=Nat.eq_of_beq_eq_true hb
    exact λa w F M=>Zt4 (hk a w F M)
   ·rename_i hb
    cases h
    exact λa w F M=>Zt3 hb (hk a w F M)
  ·exact vCD
  ·cases h
 ·cases h
theorem ZlQ:∀(k:Nat){ks ks':List KF}{st st':St}{fr fr':FN},runN c k ks st fr=(ks',st',fr')->G c Q ks' st' fr' l->G c Q ks st fr l
 |0,_,_,_,_,_,_,h,hk=>by
  cases h
  exact hk
 |k+1,ks,ks',st,st',fr,fr',h,hk=>by
  unfold runN at h
  split at h
  ·rename_i h1
   exact Zvl h1 (ZlQ k h hk)
  ·cases h
   exact hk
theorem gQ(k:Nat)(h:runN c k ks st fr=(ks',st',fr'))(hk:G c Q ks' st' fr' l):G c Q ks st fr l:=ZlQ k h hk
end
end
section
attribute [local irreducible] OpTo wpListIn Code.wpIn MW Cal
structure H2(N n:Nat)(df:List Deferred)(S:List Nat)(W0:World)(Z:World->Prop)(fr:FN)(l:EN)(X:Act->World->Prop):Prop where
 h:∀a w,Z w->Frm a n df fr->Mem S W0 w l->X a w
section
variable {N n:Nat} {df:List Deferred} {fr:FN} {X:Act->World->Prop} {P:Program} {r:Option Nat} {Q:Exit->Act->World->Prop} {w W0:World} {S:List Nat} {l l':EN} {Z:World->Prop} {all:Array Oper} {rest:List Oper} {d:Nat} {ty:TypeId} {pos:String} {af:Array Edge} {g:Option (Nat×Bool)}
instance : CoeFun (H2 N n df S W0 Z fr l X) fun _ => ∀ a w, Z w → Frm a n df fr → Mem S W0 w l → X a w := ⟨H2.h⟩
theorem Zq3{x y:Code}(k:H2 N n df S W0 Z fr l λa w=>Wp r P x (Exit.then (Wp r P y Q) Q) a w):H2 (N+1) n df S W0 Z fr l λa w=>Wp r P (.seq x y) Q a w:=⟨λa w z F M=>Zea (k a w z F M)⟩
theorem Zjh{id:Nat}{o:List Oper}(k:H2 N n df S W0 Z fr l λa w=>wpListIn (FW r) 0 P o.toArray Q o a w):H2 (N+1) n df S W0 Z fr l λa w=>Wp r P (.region id o.toArray false) Q a w:=⟨λa w z F M=>ZdV (k a w z F M)⟩
theorem Zq1{ops:Array Oper}(k:H2 N n df S W0 Z fr l λa w=>Q .normal a w):H2 (N+1) n df S W0 Z fr l λa w=>wpListIn (FW r) 0 P ops Q [] a w:=⟨λa w z F M=>ZdS (k a w z F M)⟩
theorem ZnJ{K:Act->World->Prop}(k:H2 N n df S W0 Z fr l λa w=>K a w):H2 (N+1) n df S W0 Z fr l λa w=>Exit.then K Q .normal a w:=⟨λa w z F M=>Zc6 (k a w z F M)⟩
theorem Zlb{id:Nat}{x:Code}(k:H2 N n df S W0 Z fr l λa w=>Wp r P x (Exit.inBlock id Q) a w):H2 (N+1) n df S W0 Z fr l λa w=>Wp r P (.block id x) Q a w:=⟨λa w z F M=>ZmH (k a w z F M)⟩
theorem ZnN(k:H2 N n df S W0 Z fr l λa w=>Q .normal a w):H2 (N+1) n df S W0 Z fr l λa w=>Wp r P .skip Q a w:=⟨λa w z F M=>ZrD (k a w z F M)⟩
theorem ZnO{id:Nat}(k:H2 N n df S W0 Z fr l λa w=>Q (.exit id) a w):H2 (N+1) n df S W0 Z fr l λa w=>Wp r P (.exit id) Q a w:=⟨λa w z F M=>ZuE (k a w z F M)⟩
theorem Zk9{K:Act->World->Prop}{id:Nat}(k:H2 N n df S W0 Z fr l λa w=>Q (.exit id) a w):H2 (N+1) n df S W0 Z fr l λa w=>Exit.then K Q (.exit id) a w:=⟨λa w z F M=>ZvH (k a w z F M)⟩
theorem ZnL{id:Nat}(k:H2 N n df S W0 Z fr l λa w=>Q .normal a w):H2 (N+1) n df S W0 Z fr l λa w=>Exit.inBlock id Q (.exit id) a w:=⟨λa w z F M=>Zt4 (k a w z F M)⟩
theorem Zq0{id:Nat}(k:H2 N n df S W0 Z fr l λa w=>Q .normal a w):H2 (N+1) n df S W0 Z fr l λa w=>Exit.inBlock id Q .normal a w:=⟨λa w z F M=>ZzS (k a w z F M)⟩
theorem Zq4(k:H2 N n df S W0 Z fr l λa w=>Q .ret a w):H2 (N+1) n df S W0 Z fr l λa w=>Wp r P .ret Q a w:=⟨λa w z F M=>ZiK (k a w z F M)⟩
theorem Zla{K:Act->World->Prop}(k:H2 N n df S W0 Z fr l λa w=>Q .ret a w):H2 (N+1) n df S W0 Z fr l λa w=>Exit.then K Q .ret a w:=⟨λa w z F M=>ZvI (k a w z F M)⟩
theorem ZnM{id:Nat}(k:H2 N n df S W0 Z fr l λa w=>Q .ret a w):H2 (N+1) n df S W0 Z fr l λa w=>Exit.inBlock id Q .ret a w:=⟨λa w z F M=>Zx7 (k a w z F M)⟩
theorem ZnK{id id':Nat}(hne:Nat.beq id' id=false)(k:H2 N n df S W0 Z fr l λa w=>Q (.exit id') a w):H2 (N+1) n df S W0 Z fr l λa w=>Exit.inBlock id Q (.exit id') a w:=⟨λa w z F M=>Zt3 hne (k a w z F M)⟩
theorem h_is{o:Oper}(k:H2 N n df S W0 Z fr l λa w=>wpListIn (FW r) 0 P all Q (o::rest) a w):H2 N n df S W0 Z fr l λa w=>wpListIn (FW r) 0 P all Q (o::rest) a w:=k
theorem ZyW(k:∀a,Frm a n df fr->X a w):H2 0 n df S W0 (·=w) fr l X:=⟨λa w z F M=>by subst z;exact k a F⟩
theorem ZyV(k:∀a w,Frm a n df fr->Mem S W0 w l->X a w):H2 0 n df S W0 (λ_=>True) fr l X:=⟨λa w z F M=>k a w F M⟩
theorem ZyT(hp:Zd3 op=true)(hd:Nat.blt d n=true)(hg:gOk all fr g=some true)
  (h:∃v,(∀a w,Z w->Frm a n df fr->Mem S W0 w l->OpTo P ⟨some d,op,ty,pos,af,g⟩ a.eval w λx w'=>x=v/\w'=w)/\H2 N n df S W0 Z ((d,v)::fr) l λa w=>wpListIn (FW r) 0 P all Q rest a w):
  H2 (N+1) n df S W0 Z fr l λa w=>wpListIn (FW r) 0 P all Q (⟨some d,op,ty,pos,af,g⟩::rest) a w:=⟨λa w z F M=>by
 obtain⟨v,h,k⟩:=h
 have h2:=(h a w z F M).mono (R':=λv w'=>∀a',Frm a' n df ((d,v)::fr)->wpListIn (FW r) 0 P all Q rest a' w') λx w' q a' F'=>by obtain⟨rfl,rfl⟩:=q;exact k a' _ z F' M
 rcases ZfE hg with rfl|⟨j,b,t,rfl,ht,hl⟩
 ·exact Zr4 hp F hd h2
 ·exact Zr3 hp F hd ht hl h2⟩
theorem ZyX{xs:List Operand} [hb:Zad P f](hx:Ev fr x=some (.func (.func f) #[] #[]))(ha:evL fr xs=some vs)(hd:Nat.blt d n=true)(hg:gOk all fr g=some true)
  (h:∃v,(∀w,Mem S W0 w l->Cal P f vs.toArray w λu w'=>u=v/\Ext [] w w')/\H2 N n df S W0 (λ_=>True) ((d,v)::fr) l λa w=>wpListIn (FW r) 0 P all Q rest a w):
  H2 (N+1) n df S W0 (λ_=>True) fr l λa w=>wpListIn (FW r) 0 P all Q (⟨some d, .call ⟨.value x,xs.toArray,ts⟩,ty,pos,af,g⟩::rest) a w:=⟨λa w z F M=>by
 obtain⟨v,h,k⟩:=h
 have h2:OpTo P ⟨some d, .call ⟨.value x,xs.toArray,ts⟩,ty,pos,af,g⟩ a.eval w λv w'=>∀a',Frm a' n df ((d,v)::fr)->wpListIn (FW r) 0 P all Q rest a' w':=Zav (F.e hx) (F.evs ha) (Cal.mono (h w M) λu w' q a' F'=>by obtain⟨rfl,E⟩:=q;exact k a' _ trivial F' (M.later E))
 rcases ZfE hg with rfl|⟨j,b,t,rfl,ht,hl⟩
 ·exact Zr4 rfl F hd h2
 ·exact Zr3 rfl F hd ht hl h2⟩
theorem ZAc [hs:TSz P t 1](hx:Ev fr x=some (.pointer (some ⟨b,off,none⟩)))(hy:Ev fr y=some v)(h1:v.oneCell'=true)(hu:Upd l b (.cells cs.toArray t' (0,0)) (.cells cs'.toArray t' (0,0)) l')(hp:put cs off [v]=some cs')
  (k:H2 N n df S W0 (λ_=>True) fr l' λa w=>wpListIn (FW r) 0 P all Q rest a w):H2 (N+1) n df S W0 (λ_=>True) fr l λa w=>wpListIn (FW r) 0 P all Q (⟨none, .store t x y,ty,pos,af,none⟩::rest) a w:=
 ⟨λa w z F M=>ZaW rfl F (ZfA M (F.e hx) (F.e hy) h1 hu.has hp hu λw' M' a' F'=>k a' w' trivial F' M')⟩
theorem ZAb{b off m:Nat} [hs:TAgg P t m](hx:Ev fr x=some (.pointer (some ⟨b,off,none⟩)))(hy:Ev fr y=some (.agg vs.toArray))(hn:vs.length=m)(h1:vs.all (·.oneCell')=true)(hu:Upd l b (.cells cs.toArray t' (0,0)) (.cells cs'.toArray t' (0,0)) l')(hp:put cs off vs=some cs')
  (k:H2 N n df S W0 (λ_=>True) fr l' λa w=>wpListIn (FW r) 0 P all Q rest a w):H2 (N+1) n df S W0 (λ_=>True) fr l λa w=>wpListIn (FW r) 0 P all Q (⟨none, .store t x y,ty,pos,af,none⟩::rest) a w:=
 ⟨λa w z F M=>ZaW rfl F (Zap M (F.e hx) (F.e hy) hn h1 hu.has hp hu λw' M' a' F'=>k a' w' trivial F' M')⟩
theorem ZyU{j t:Nat}{b:Bool}(hd:Nat.blt d n=true)(hj:(all[j]?).bind (·.dst)=some t)(hb:look fr t=some v)(ho:ZeS b v=true)(k:H2 N n df S W0 Z ((d,undef)::fr) l λa w=>wpListIn (FW r) 0 P all Q rest a w):
  H2 (N+1) n df S W0 Z fr l λa w=>wpListIn (FW r) 0 P all Q (⟨some d,op,ty,pos,af,some (j,b)⟩::rest) a w:=⟨λa w z F M=>Zpm F hd hj hb ho λa' F'=>k a' w z F' M⟩
theorem Zup{x y:Code}{t:Bool}(hc:Ev fr c=some (.bool t))(ht:t=true)(k:H2 N n df S W0 Z fr l λa w=>Wp r P x Q a w):H2 (N+1) n df S W0 Z fr l λa w=>Wp r P (.cond c x y) Q a w:=⟨λa w z F M=>ZrC F hc ht (k a w z F M)⟩
theorem Zq2{x y:Code}{t:Bool}(hc:Ev fr c=some (.bool t))(ht:t=false)(k:H2 N n df S W0 Z fr l λa w=>Wp r P y Q a w):H2 (N+1) n df S W0 Z fr l λa w=>Wp r P (.cond c x y) Q a w:=⟨λa w z F M=>ZmF F hc ht (k a w z F M)⟩
end
theorem oA{o:Oper}(F:Frm a n df fr)(M:Mem S W0 w l)
  (h:OpTo P o a.eval w λx w'=>x=v/\w'=w:=by first
   |(show OpTo _ ⟨_, .move _,_,_,_,_⟩ _ _ _;exact Zgm (F.e rfl) ⟨rfl,rfl⟩)
   |(show OpTo _ ⟨_, .assign _,_,_,_,_⟩ _ _ _;exact ZeU (F.e rfl) ⟨rfl,rfl⟩)
   |(show OpTo _ ⟨_, .load _ _,_,_,_,_⟩ _ _ _;first|exact ZgY M (F.e rfl) Q1 Q2 ⟨rfl,rfl⟩|exact Zbs M (F.e rfl) Q1 Q2 ⟨rfl,rfl⟩|exact ZjU M (F.e rfl) Qd Q2 ⟨rfl,rfl⟩|exact ZsG M (F.e rfl) Qd Q2 ⟨rfl,rfl⟩)
   |(show OpTo _ ⟨_, .fieldAddr _ _ _,_,_,_,_⟩ _ _ _;exact Zh9 (F.e rfl) ⟨rfl,rfl⟩)
   |(show OpTo _ ⟨_, .binOp _ _ _ _ _,_,_,_,_⟩ _ _ _;first
    |(show OpTo _ ⟨_, .binOp .lss _ _ _ _,_,_,_,_⟩ _ _ _;first|exact Zyr (F.e rfl) (F.e rfl) Q0 ⟨rfl,rfl⟩|exact Zys (F.e rfl) (F.e rfl) Q0 ⟨rfl,rfl⟩|exact ZsF (F.e rfl) (F.e rfl) ⟨rfl,rfl⟩)
    |(show OpTo _ ⟨_, .binOp .leq _ _ _ _,_,_,_,_⟩ _ _ _;first|exact Zyt (F.e rfl) (F.e rfl) Q0 ⟨rfl,rfl⟩|exact Zyu (F.e rfl) (F.e rfl) Q0 ⟨rfl,rfl⟩|exact ZsH (F.e rfl) (F.e rfl) ⟨rfl,rfl⟩)
    |(show OpTo _ ⟨_, .binOp .gtr _ _ _ _,_,_,_,_⟩ _ _ _;first|exact Zyv (F.e rfl) (F.e rfl) Q0 ⟨rfl,rfl⟩|exact Zyw (F.e rfl) (F.e rfl) Q0 ⟨rfl,rfl⟩|exact ZsI (F.e rfl) (F.e rfl) ⟨rfl,rfl⟩)
    |(show OpTo _ ⟨_, .binOp .geq _ _ _ _,_,_,_,_⟩ _ _ _;first|exact Zyx (F.e rfl) (F.e rfl) Q0 ⟨rfl,rfl⟩|exact Zyy (F.e rfl) (F.e rfl) Q0 ⟨rfl,rfl⟩|exact ZsJ (F.e rfl) (F.e rfl) ⟨rfl,rfl⟩)
    |(show OpTo _ ⟨_, .binOp .eql _ _ _ _,_,_,_,_⟩ _ _ _;first|exact Zyz (F.e rfl) (F.e rfl) Q0 ⟨rfl,rfl⟩|exact ZyA (F.e rfl) (F.e rfl) Q0 ⟨rfl,rfl⟩|exact ZsL (F.e rfl) (F.e rfl) ⟨rfl,rfl⟩|exact Zqq (F.e rfl) (F.e rfl) Q2 Q2 Qd ⟨rfl,rfl⟩|exact Zqr (F.e rfl) (F.e rfl) Q2 Q2 Qd ⟨rfl,rfl⟩|exact Zi5 (F.e rfl) (F.e rfl) Q2 Q2 ⟨rfl,rfl⟩)
    |(show OpTo _ ⟨_, .binOp .neq _ _ _ _,_,_,_,_⟩ _ _ _;first|exact Zyp (F.e rfl) (F.e rfl) Q0 ⟨rfl,rfl⟩|exact Zyq (F.e rfl) (F.e rfl) Q0 ⟨rfl,rfl⟩|exact ZsE (F.e rfl) (F.e rfl) ⟨rfl,rfl⟩|exact ZvW (F.e rfl) (F.e rfl) Q2 Q2 Qd ⟨rfl,rfl⟩|exact ZvX (F.e rfl) (F.e rfl) Q2 Q2 Qd ⟨rfl,rfl⟩|exact Znv (F.e rfl) (F.e rfl) Q2 Q2 ⟨rfl,rfl⟩)
    |(show OpTo _ ⟨_, .binOp .add _ _ _ _,_,_,_,_⟩ _ _ _;first|exact ZoE (F.e rfl) (F.e rfl) Qv ⟨rfl,rfl⟩|exact ZoE (F.e rfl) (F.e rfl) (w_u8 Q0 Q0) ⟨rfl,rfl⟩|exact ZoE (F.e rfl) (F.e rfl) (ZhP Q0 Q0) ⟨rfl,rfl⟩|exact ZoE (F.e rfl) (F.e rfl) (Ze9 Q0 Q0) ⟨rfl,rfl⟩|exact ZoE (F.e rfl) (F.e rfl) rfl ⟨rfl,rfl⟩)
    |(show OpTo _ ⟨_, .binOp .sub _ _ _ _,_,_,_,_⟩ _ _ _;first|exact Zl4 (F.e rfl) (F.e rfl) Qv ⟨rfl,rfl⟩|exact Zl4 (F.e rfl) (F.e rfl) (w_u8 Q0 Q0) ⟨rfl,rfl⟩|exact Zl4 (F.e rfl) (F.e rfl) (ZhP Q0 Q0) ⟨rfl,rfl⟩|exact Zl4 (F.e rfl) (F.e rfl) (Ze9 Q0 Q0) ⟨rfl,rfl⟩|exact Zl4 (F.e rfl) (F.e rfl) rfl ⟨rfl,rfl⟩)
    |(show OpTo _ ⟨_, .binOp .mul _ _ _ _,_,_,_,_⟩ _ _ _;first|exact Zl5 (F.e rfl) (F.e rfl) Qv ⟨rfl,rfl⟩|exact Zl5 (F.e rfl) (F.e rfl) (w_u8 Q0 Q0) ⟨rfl,rfl⟩|exact Zl5 (F.e rfl) (F.e rfl) (ZhP Q0 Q0) ⟨rfl,rfl⟩|exact Zl5 (F.e rfl) (F.e rfl) (Ze9 Q0 Q0) ⟨rfl,rfl⟩|exact Zl5 (F.e rfl) (F.e rfl) rfl ⟨rfl,rfl⟩)
    |(show OpTo _ ⟨_, .binOp .and _ _ _ _,_,_,_,_⟩ _ _ _;exact ZsN (F.e rfl) (F.e rfl) rfl ⟨rfl,rfl⟩)
    |(show OpTo _ ⟨_, .binOp .or _ _ _ _,_,_,_,_⟩ _ _ _;exact o_or (F.e rfl) (F.e rfl) rfl ⟨rfl,rfl⟩)
    |(show OpTo _ ⟨_, .binOp .xor _ _ _ _,_,_,_,_⟩ _ _ _;exact ZzY (F.e rfl) (F.e rfl) rfl ⟨rfl,rfl⟩)
    |(show OpTo _ ⟨_, .binOp .andNot _ _ _ _,_,_,_,_⟩ _ _ _;exact ZsM (F.e rfl) (F.e rfl) rfl ⟨rfl,rfl⟩)
    |(show OpTo _ ⟨_, .binOp .shl _ _ _ _,_,_,_,_⟩ _ _ _;first|exact Zqn (F.e rfl) (F.e rfl) Q0 rfl ⟨rfl,rfl⟩|exact Zqn (F.e rfl) (F.e rfl) (by first|omega|(split<;>first|omega|(split<;>omega))) rfl ⟨rfl,rfl⟩)
    |(show OpTo _ ⟨_, .binOp .shr _ _ _ _,_,_,_,_⟩ _ _ _;first|exact ZoA (F.e rfl) (F.e rfl) Q0 rfl ⟨rfl,rfl⟩|exact ZoA (F.e rfl) (F.e rfl) (by first|omega|(split<;>first|omega|(split<;>omega))) rfl ⟨rfl,rfl⟩)
    |(show OpTo _ ⟨_, .binOp .quo _ _ _ _,_,_,_,_⟩ _ _ _;first|exact Zk0 (F.e rfl) (F.e rfl) Q0 Qv ⟨rfl,rfl⟩|exact Zk0 (F.e rfl) (F.e rfl) Q0 (w_u8 Q0 Q0) ⟨rfl,rfl⟩|exact Zk0 (F.e rfl) (F.e rfl) Q0 (ZhP Q0 Q0) ⟨rfl,rfl⟩|exact Zk0 (F.e rfl) (F.e rfl) Q0 (Ze9 Q0 Q0) ⟨rfl,rfl⟩|exact Zk0 (F.e rfl) (F.e rfl) Q0 rfl ⟨rfl,rfl⟩)
    |(show OpTo _ ⟨_, .binOp .rem _ _ _ _,_,_,_,_⟩ _ _ _;exact Zyn (F.e rfl) (F.e rfl) Q0 rfl ⟨rfl,rfl⟩))
   |(show OpTo _ ⟨_, .unOp _ _ _,_,_,_,_⟩ _ _ _;exact Zyo (F.e rfl) ⟨rfl,rfl⟩)
   |(show OpTo _ ⟨_, .convert _ _ _,_,_,_,_⟩ _ _ _;first|exact Zia (F.e rfl) Qv ⟨rfl,rfl⟩|exact Zia (F.e rfl) (w_u8 Q0 Q0) ⟨rfl,rfl⟩|exact Zia (F.e rfl) (ZhP Q0 Q0) ⟨rfl,rfl⟩|exact Zia (F.e rfl) (Ze9 Q0 Q0) ⟨rfl,rfl⟩|exact Zia (F.e rfl) rfl ⟨rfl,rfl⟩)
   |(show OpTo _ ⟨_, .pick _ _ _,_,_,_,_⟩ _ _ _;first|exact ZvU (F.e rfl) (F.e rfl) ⟨rfl,rfl⟩|exact ZvV (F.e rfl) (F.e rfl) ⟨rfl,rfl⟩|exact Zqo (F.e rfl) (F.e rfl) (F.e rfl) ⟨rfl,rfl⟩)
   |(show OpTo _ ⟨_, .extract _ _,_,_,_,_⟩ _ _ _;exact Zey (F.e rfl) rfl ⟨rfl,rfl⟩)
   |(show OpTo _ ⟨_, .field _ _ _,_,_,_,_⟩ _ _ _;exact ZsK (F.e rfl) rfl ⟨rfl,rfl⟩)
   |(show OpTo _ ⟨_, .build _ _,_,_,_,_⟩ _ _ _;first|exact Zaq F rfl Qd ⟨rfl,rfl⟩|exact Zaq F rfl rfl ⟨rfl,rfl⟩)
   |(show OpTo _ ⟨_, .indexAddr _ _ _,_,_,_,_⟩ _ _ _;first|exact ZgZ (F.e rfl) (F.e rfl) Q0 Q0 ⟨rfl,rfl⟩|exact Zex (F.e rfl) (F.e rfl) Q0 Q0 ⟨rfl,rfl⟩)
   |(show OpTo _ ⟨_, .index _ _ _,_,_,_,_⟩ _ _ _;exact ZxK (F.e rfl) (F.e rfl) rfl Q0 ⟨rfl,rfl⟩)
   |(show OpTo _ ⟨_, .nilCheck _,_,_,_,_⟩ _ _ _;exact Zan (F.e rfl) rfl ⟨rfl,rfl⟩)
   |(show OpTo _ ⟨_, .call ⟨.builtin _,_,_⟩,_,_,_,_⟩ _ _ _;first
    |(show OpTo _ ⟨_, .call ⟨.builtin .min,_,_⟩,_,_,_,_⟩ _ _ _;exact ZiE (F.e rfl) (F.e rfl) ⟨rfl,rfl⟩)
    |(show OpTo _ ⟨_, .call ⟨.builtin .max,_,_⟩,_,_,_,_⟩ _ _ _;exact ZoB (F.e rfl) (F.e rfl) ⟨rfl,rfl⟩)
    |(show OpTo _ ⟨_, .call ⟨.builtin .len,_,_⟩,_,_,_,_⟩ _ _ _;first|exact Zl6 (F.e rfl) ⟨rfl,rfl⟩|exact ZjV (F.e rfl) Qd ⟨rfl,rfl⟩)
    |(show OpTo _ ⟨_, .call ⟨.builtin .cap,_,_⟩,_,_,_,_⟩ _ _ _;exact ZvY (F.e rfl) ⟨rfl,rfl⟩))):OpTo P o a.eval w λx w'=>x=v/\w'=w:=h
structure HM(N:Nat)(p:Prop):Prop where
 h:p
theorem Zz8(h:p):HM 0 p:=⟨h⟩
theorem HM.u1{N n:Nat}{X:Act->World->Prop}(F:Frm a n df fr)(M:Mem S W0 w l)(k:H2 N n df S W0 (·=w) fr l X):HM N (X a w):=⟨k.h a w rfl F M⟩
theorem HM.u5{N n:Nat}{X:Act->World->Prop}(F:Frm a n df fr)(M:Mem S W0 w l)(k:H2 N n df S W0 (λ_=>True) fr l X):HM N (X a w):=⟨k.h a w trivial F M⟩
structure PL(Q:Prop):Prop where
 h:Q
theorem T2{A B:Prop}(a:A)(b:B):A/\B:=⟨a,b⟩
theorem T3{A B C:Prop}(a:A)(b:B)(c:C):A/\B/\C:=⟨a,b,c⟩
theorem T4{A B C D:Prop}(a:A)(b:B)(c:C)(d:D):A/\B/\C/\D:=⟨a,b,c,d⟩
theorem T5{A B C D E:Prop}(a:A)(b:B)(c:C)(d:D)(e:E):A/\B/\C/\D/\E:=⟨a,b,c,d,e⟩
inductive InR:Row->Nat->Obj->Prop
 |here {b:Nat} {o:Obj} (l:Row):InR ([(b,o)]::l) b o
 |there {p:EN} {l:Row} {b:Nat} {o:Obj} (h:InR l b o):InR (p::l) b o
theorem InR.mem{l:Row}{b:Nat}{o:Obj}(h:InR l b o):(b,o)∈l.flatten:=by
 induction h with
 |here l=>simp
 |there _ ih=>simp[ih]
class NthC (xs : List Value) (i : Nat) (v : outParam Value) (H : outParam Prop) : Prop where
 h:H->nth xs i=some v
class SegC (xs : List Value) (i n : Nat) (ys : outParam (List Value)) (H : outParam Prop) : Prop where
 h:H->seg xs i n=some ys
class EncC (xs : List Value) (n : outParam Nat) (H : outParam Prop) : Prop where
 len:H->xs.length=n
 one:xs.all (·.oneCell')=true
theorem cH(h:p:=by first|with_reducible assumption|assumption|trivial|exact And.left Qd|exact⟨Qd,trivial⟩):p:=h
class Ltr (b : World) (q : Prop) (p : outParam (World → Prop)) : Prop where
 l:∀{a:World},Ext [] a b->p a->q
theorem cT(h:p:=by first|with_reducible assumption|assumption|omega|exact And.left Qd|exact And.right Qd|exact‹SlAt _ _ _ _ _›.later M.ext|exact‹SlAt _ _ _ _ _›.later (M.ext.trans E)|exact OwnS.slAt Qd M (λq hq=>by simp[hq])|exact Zbz.later Qd M.ext|(refine Ltr.l M.ext ?_;assumption)|exact M.at_ _ (InR.mem (by repeat (first|exact .here _|apply InR.there)))|exact⟨Q0,Q0⟩|decide):p:=h
theorem W1(N:Nat){p Q:Prop}(k:Q)
  (h:PL Q->HM N p:=by
   intro kk
   refine HM.u1 F M ?_
   repeat (first
    |((with_reducible refine h_is ?_);first|(refine ZyT rfl rfl rfl ?_;first|refine⟨_,λa w z F M=>oA F M,?_⟩|refine⟨_,λa w z F M=>by cases z;exact oA F M,?_⟩)|refine ZyU rfl rfl rfl rfl ?_)
    |with_reducible refine Zq3 ?_
    |with_reducible refine Zjh ?_
    |with_reducible refine Zq1 ?_
    |with_reducible refine ZnJ ?_
    |with_reducible refine Zlb ?_
    |with_reducible refine ZnN ?_
    |with_reducible refine ZnO ?_
    |with_reducible refine Zk9 ?_
    |with_reducible refine ZnL ?_
    |with_reducible refine Zq0 ?_
    |with_reducible refine Zq4 ?_
    |with_reducible refine Zla ?_
    |with_reducible refine ZnM ?_
    |refine ZnK rfl ?_
    |refine Zup rfl rfl ?_
    |refine Zq2 rfl rfl ?_)
   exact ZyW kk.h):p:=(h ⟨k⟩).h
theorem W5(N:Nat){p Q A:Prop}(t:A)(k:Q)
  (h:A->PL Q->HM N p:=by
   intro t kk
   refine HM.u5 F M ?_
   repeat (first
    |((with_reducible refine h_is ?_);first|(refine ZyT rfl rfl rfl ?_;refine⟨_,λa w z F M=>oA F M,?_⟩)|refine ZyU rfl rfl rfl rfl ?_|(refine ZyX rfl rfl rfl rfl ?_;refine⟨_,λw M=>by first|(apply t<;>exact cT)|(apply t.1<;>exact cT)|(apply t.2<;>exact cT)|(apply t.2.1<;>exact cT)|(apply t.2.2<;>exact cT)|(apply t.2.2.1<;>exact cT)|(apply t.2.2.2<;>exact cT)|(apply t.2.2.2.1<;>exact cT)|(apply t.2.2.2.2<;>exact cT),?_⟩)|refine ZAc rfl rfl rfl Q1 (by rfl) ?_|refine ZAb rfl rfl (by rfl) (by rfl) Q1 (by rfl) ?_)
    |with_reducible refine Zq3 ?_
    |with_reducible refine Zjh ?_
    |with_reducible refine Zq1 ?_
    |with_reducible refine ZnJ ?_
    |with_reducible refine Zlb ?_
    |with_reducible refine ZnN ?_
    |with_reducible refine ZnO ?_
    |with_reducible refine Zk9 ?_
    |with_reducible refine ZnL ?_
    |with_reducible refine Zq0 ?_
    |with_reducible refine Zq4 ?_
    |with_reducible refine Zla ?_
    |with_reducible refine ZnM ?_
    |refine ZnK rfl ?_
    |refine Zup rfl rfl ?_
    |refine Zq2 rfl rfl ?_)
   exact ZyV kk.h):p:=(h t ⟨k⟩).h
section
variable {N:Nat} {c:RC} {ix d:Nat} {rest:List Oper} {fr:FN} {Vs:List Pred} {T:Zep} {op:Op} {ty:TypeId} {pos:String} {af:Array Edge}
theorem m_op(hok:Zb2 c.ops c.n=true)(hlt:flo c.Ef c.Rl c.Pp c.n ix op=true)(hd:Nat.blt d c.nt=true)(hg:gOk c.ops fr g=some true)
  (h:∀a w,Frm a c.nt c.df fr->c.K.e c.w1 w->OpTo c.P ⟨some d,op,ty,pos,af,g⟩ a.eval w λx w'=>x=v/\w'=w)
  (k:HM N (MW c (ix+1) rest ((d,v)::fr) (Vs++[Kn v]) T)):HM (N+1) (MW c ix (⟨some d,op,ty,pos,af,g⟩::rest) fr Vs T):=⟨by
 have h2:∀a w,Frm a c.nt c.df fr->c.K.e c.w1 w->OpTo c.P ⟨some d,op,ty,pos,af,g⟩ a.eval w λx w'=>c.K.r w w'/\x=v:=λa w F E=>(h a w F E).mono λx w' q=>by obtain⟨rfl,rfl⟩:=q;exact⟨c.K.refl _,rfl⟩
 rcases ZfE hg with rfl|⟨j,b,t,rfl,ht,hl⟩
 ·exact mK hok hlt hd h2 k.h
 ·exact mKG hok hlt hd ht hl h2 k.h⟩
theorem Zz6(hok:Zb2 c.ops c.n=true)(hlt:flo c.Ef c.Rl c.Pp c.n ix op=true)(hd:Nat.blt d c.nt=true)(hg:gOk c.ops fr g=some true)
  (h:∃v,(∀a w,Frm a c.nt c.df fr->c.K.e c.w1 w->OpTo c.P ⟨some d,op,ty,pos,af,g⟩ a.eval w λx w'=>x=v/\w'=w)/\HM N (MW c (ix+1) rest ((d,v)::fr) (Vs++[Kn v]) T)):HM (N+1) (MW c ix (⟨some d,op,ty,pos,af,g⟩::rest) fr Vs T):=h.elim λ_ h=>m_op hok hlt hd hg h.1 h.2
theorem Zz7{j t:Nat}{b:Bool}(hok:Zb2 c.ops c.n=true)(hlt:flo c.Ef c.Rl c.Pp c.n ix op=true)(hd:Nat.blt d c.nt=true)(hj:(c.ops[j]?).bind (·.dst)=some t)(hb:look fr t=some u)(ho:ZeS b u=true)
  (k:HM N (MW c (ix+1) rest ((d,undef)::fr) (Vs++[Kn undef]) T)):HM (N+1) (MW c ix (⟨some d,op,ty,pos,af,some (j,b)⟩::rest) fr Vs T):=⟨mOff hok hlt hd hj hb ho k.h⟩
end
theorem W2(N:Nat){c:RC}{ix:Nat}{rest:List Oper}{Vs:List Pred}{T:Zep}{Q:Prop}(hok:Zb2 c.ops c.n=true)(k:Q)
  (h:PL Q->HM N (MW c ix rest fr Vs T):=by
   intro kk
   repeat (first
    |(refine Zz6 hok rfl rfl rfl ?_;refine⟨_,λa w F E=>by first|(have M:=M1.later E;exact oA F M)|(have M:=keepOne.later M1 E;exact oA F M)|(have M:=M1.laterBut E hB;exact oA F M)|(have M:=M1.laterOld E (Nat.le_of_eq hsz);exact oA F M)|(have M:=hM _ E;exact oA F M),?_⟩)
    |refine Zz7 hok rfl rfl rfl rfl rfl ?_)
   exact Zz8 kk.h):MW c ix rest fr Vs T:=(h ⟨k⟩).h
end
section
theorem bneF{x y:Int}(h:x=y):(x !=y)=false:=by simp[h]
theorem notT{b:Bool}(h:b=false):(!b)=true:=by simp[h]
theorem notF{b:Bool}(h:b=true):(!b)=false:=by simp[h]
def nthO{α:Type}:List α->Nat->Option α
 |[],_=>none
 |x::_,0=>some x
 | _::r,i+1=>nthO r i
theorem ZjY:∀{l:Row}{i:Nat}{e:EN},nthO l i=some e->∀x∈e,x∈l.flatten
 |[],_,_,h=>by simp[nthO] at h
 |y::_,0,x,h=>by
  simp only[nthO,Option.some.injEq] at h
  intro z hz
  simp[h,hz]
 | _::r,i+1,x,h=>λz hz=>List.mem_append_right _ (ZjY (l:=r) h z hz)
theorem Zak{l:Row}{x:Nat×Obj}(h:nthO l i=some [x]):x∈l.flatten:=ZjY h x Q5
def setO:Row->Nat->EN->Option Row
 |[],_,_=>none
 | _::r,0,o=>some (o::r)
 |p::r,i+1,o=>match setO r i o with
  |some q=>some (p::q)
  |none=>none
theorem subO{l l':Row}(h:l.Sublist l'):l.flatten.Sublist l'.flatten:=by
 induction h with
 |slnil=>exact .refl _
 |cons x h ih=>exact ih.trans (List.sublist_append_right _ _)
 |cons_cons x h ih=>exact List.Sublist.append (.refl _) ih
theorem ZeK:∀{l l':Row}{i b:Nat}{o o':Obj},nthO l i=some [(b,o)]->setO l i [(b,o')]=some l'->Upd l.flatten b o o' l'.flatten
 |[],_,_,_,_,_,h,_=>by simp[nthO] at h
 |p::r,l',0,b,o,o',h,k=>by
  simp only[nthO,Option.some.injEq] at h
  simp only[setO,Option.some.injEq] at k
  subst h
  subst k
  exact .here
 |p::r,l',i+1,b,o,o',h,k=>by
  simp only[nthO] at h
  simp only[setO] at k
  split at k
  ·rename_i q hq
   cases k
   exact(ZeK h hq).append _
  ·cases k
theorem ZcL:∀{l l':Row}{i:Nat}{e e':EN},nthO l i=some e->setO l i e'=some l'->∃r,l.flatten.Perm (e++r)/\l'.flatten.Perm (e'++r)
 |[],_,_,_,_,h,_=>by simp[nthO] at h
 |p::r,l',0,e,e',h,k=>by
  simp only[nthO,Option.some.injEq] at h
  simp only[setO,Option.some.injEq] at k
  subst h
  subst k
  exact⟨r.flatten, .refl _, .refl _⟩
 |p::r,l',i+1,e,e',h,k=>by
  simp only[nthO] at h
  simp only[setO] at k
  split at k
  ·rename_i q hq
   cases k
   obtain⟨s,h1,h2⟩:=ZcL h hq
   refine⟨p++s,?_,?_⟩
   ·refine(List.Perm.append_left p h1).trans ?_
    rw[<-List.append_assoc,<-List.append_assoc]
    exact List.Perm.append_right _ List.perm_append_comm
   ·refine(List.Perm.append_left p h2).trans ?_
    rw[<-List.append_assoc,<-List.append_assoc]
    exact List.Perm.append_right _ List.perm_append_comm
  ·cases k
theorem OwnS.nilL{α:Type}(enc:α->List Value)(e:TypeId)(sz:Nat):OwnS e sz (.slice none 0 0) ([]:List α).length (encL enc []) []:=OwnS.nil _ _
section
variable {c:Cx} {Q:Exit->Act->World->Prop} {ks:List KF} {fr:FN} {l l':Row} {all:Array Oper} {rest:List Oper} {d:Nat} {ty:TypeId} {pos:String} {af:Array Edge} {g:Option (Nat×Bool)}
theorem g_v(h:∀a w,Frm a c.n c.df fr->Mem c.S c.W w l.flatten->∀R:Value->World->Prop,R v w->OpTo c.P ⟨some d,op,ty,pos,af,g⟩ a.eval w R)
  (k:G c Q ks (.ops all rest) ((d,v)::fr) l) (hp:Zd3 op=true:=by rfl) (hd:Nat.blt d c.n=true:=by rfl) (hg:gOk all fr g=some true:=by rfl):G c Q ks (.ops all (⟨some d,op,ty,pos,af,g⟩::rest)) fr l:=
 g_op hp hd hg λa w F M=>h a w F M _ λa' F'=>k a' w F' M
section arith
variable {t t':TypeId} {x y:Operand} {k:IntKind} {m n s:Int}
theorem Zim(hx:Ev fr x=some (.int k m))(hy:Ev fr y=some (.int k n))(hs:k.wrap (m+n)=s)(hk:G c Q ks (.ops all rest) ((d, .int k s)::fr) l)(hd:Nat.blt d c.n=true:=by rfl)(hg:gOk all fr g=some true:=by rfl):
  G c Q ks (.ops all (⟨some d, .binOp .add t x y t',ty,pos,af,g⟩::rest)) fr l:=g_v (λa w F M R r=>ZoE (F.e hx) (F.e hy) hs r) hk rfl hd hg
theorem ZiI(hx:Ev fr x=some (.int k m))(hy:Ev fr y=some (.int k n))(hs:k.wrap (m-n)=s)(hk:G c Q ks (.ops all rest) ((d, .int k s)::fr) l)(hd:Nat.blt d c.n=true:=by rfl)(hg:gOk all fr g=some true:=by rfl):
  G c Q ks (.ops all (⟨some d, .binOp .sub t x y t',ty,pos,af,g⟩::rest)) fr l:=g_v (λa w F M R r=>Zl4 (F.e hx) (F.e hy) hs r) hk rfl hd hg
theorem Zq8(hx:Ev fr x=some (.int k m))(hy:Ev fr y=some (.int k n))(hs:k.wrap (m*n)=s)(hk:G c Q ks (.ops all rest) ((d, .int k s)::fr) l)(hd:Nat.blt d c.n=true:=by rfl)(hg:gOk all fr g=some true:=by rfl):
  G c Q ks (.ops all (⟨some d, .binOp .mul t x y t',ty,pos,af,g⟩::rest)) fr l:=g_v (λa w F M R r=>Zl5 (F.e hx) (F.e hy) hs r) hk rfl hd hg
theorem Zei{t1 t2:TypeId}{ds:TypeDesc}{k':IntKind}(hx:Ev fr x=some (.int k m)) [hs:TU c.P t1 ds] [ht:TU c.P t2 (.int k')](hm:k'.wrap m=n)(hk:G c Q ks (.ops all rest) ((d, .int k' n)::fr) l)(hd:Nat.blt d c.n=true:=by rfl)(hg:gOk all fr g=some true:=by rfl):
  G c Q ks (.ops all (⟨some d, .convert t1 t2 x,ty,pos,af,g⟩::rest)) fr l:=g_v (λa w F M R r=>Zia (F.e hx) hm r) hk rfl hd hg
end arith
theorem Zwr(i:Nat) [ht:TOne c.P t](hx:Ev fr x=some (.pointer (some ⟨b,off,none⟩)))(hl:nthO l i=some [(b, .cells cs.toArray t' fz)])(hv:nth cs off=some v)
  (hk:G c Q ks (.ops all rest) ((d,v)::fr) l) (hd:Nat.blt d c.n=true:=by rfl) (hg:gOk all fr g=some true:=by rfl):G c Q ks (.ops all (⟨some d, .load t x,ty,pos,af,g⟩::rest)) fr l:=
 g_v (λa w F M R r=>ZcB (F.e hx) (M.at_ _ (Zak hl)) hv r) hk rfl hd hg
theorem Zwq(i:Nat) [ht:TAgg c.P t n](hx:Ev fr x=some (.pointer (some ⟨b,off,none⟩)))(hl:nthO l i=some [(b, .cells cs.toArray t' fz)])(hv:seg cs off n=some vs)
  (hk:G c Q ks (.ops all rest) ((d, .agg vs.toArray)::fr) l) (hd:Nat.blt d c.n=true:=by rfl) (hg:gOk all fr g=some true:=by rfl):G c Q ks (.ops all (⟨some d, .load t x,ty,pos,af,g⟩::rest)) fr l:=
 g_v (λa w F M R r=>ZbM (F.e hx) (M.at_ _ (Zak hl)) hv r) hk rfl hd hg
theorem ZgA [ht:TOne c.P t](hx:Ev fr x=some (.pointer (some ⟨b,off,none⟩)))(hb:∀w',Ext c.S c.W w'->w'.heap[b]? =some (.cells cs.toArray t' fz))(hv:nth cs off=some v)
  (hk:G c Q ks (.ops all rest) ((d,v)::fr) l) (hd:Nat.blt d c.n=true:=by rfl) (hg:gOk all fr g=some true:=by rfl):G c Q ks (.ops all (⟨some d, .load t x,ty,pos,af,g⟩::rest)) fr l:=
 g_v (λa w F M R r=>ZcB (F.e hx) (hb w M.ext) hv r) hk rfl hd hg
theorem ZiJ [ht:TAgg c.P t n](hx:Ev fr x=some (.pointer (some ⟨b,off,none⟩)))(hb:∀w',Ext c.S c.W w'->w'.heap[b]? =some (.cells cs.toArray t' fz))(hv:seg cs off n=some vs)
  (hk:G c Q ks (.ops all rest) ((d, .agg vs.toArray)::fr) l) (hd:Nat.blt d c.n=true:=by rfl) (hg:gOk all fr g=some true:=by rfl):G c Q ks (.ops all (⟨some d, .load t x,ty,pos,af,g⟩::rest)) fr l:=
 g_v (λa w F M R r=>ZbM (F.e hx) (hb w M.ext) hv r) hk rfl hd hg
theorem Ztb{t e:TypeId}{x i:Operand}{k:IntKind}{b o len cap sz:Nat}{j:Int}(hx:Ev fr x=some (.slice (some ⟨b,o,none⟩) len cap))(hi:Ev fr i=some (.int k j)) [ht:TU c.P t (.slice e)] [hs:TSz c.P e sz](h0:0<=j)(h1:j<len)
  (hk:G c Q ks (.ops all rest) ((d, .pointer (some ⟨b,o+j.toNat*sz,none⟩))::fr) l) (hd:Nat.blt d c.n=true:=by rfl) (hg:gOk all fr g=some true:=by rfl):G c Q ks (.ops all (⟨some d, .indexAddr t x i,ty,pos,af,g⟩::rest)) fr l:=
 g_v (λa w F M R r=>Zex (F.e hx) (F.e hi) h0 h1 r) hk rfl hd hg
theorem ZyY{t e e':TypeId}(hx:Ev fr x=some v)(hO:OwnS e' sz v n xs ent) [ht:TU c.P t (.slice e)]
  (hk:G c Q ks (.ops all rest) ((d, .int .i64 n)::fr) l) (hd:Nat.blt d c.n=true:=by rfl) (hg:gOk all fr g=some true:=by rfl):G c Q ks (.ops all (⟨some d, .call ⟨.builtin .len, #[x], #[t]⟩,ty,pos,af,g⟩::rest)) fr l:=
 g_v (λa w F M R r=>ZjV (F.e hx) hO r) hk rfl hd hg
theorem Zli{kk:List LK}{b:Bool} [ht:TEq c.P t kk](hx:Ev fr x=some (.agg xs.toArray))(hy:Ev fr y=some (.agg ys.toArray))(fx:ZaZ kk xs=true)(fy:ZaZ kk ys=true)(he:eqVs xs ys=b)
  (hk:G c Q ks (.ops all rest) ((d, .bool b)::fr) l) (hd:Nat.blt d c.n=true:=by rfl) (hg:gOk all fr g=some true:=by rfl):G c Q ks (.ops all (⟨some d, .binOp .eql t x y t',ty,pos,af,g⟩::rest)) fr l:=
 g_v (λa w F M R r=>Zl7 (F.e hx) (F.e hy) fx fy he r) hk rfl hd hg
theorem Zac [hz:ZcD c.P t cs](hk:∀b,G c Q ks (.ops all rest) ((d, .pointer (some ⟨b,0,none⟩))::fr) ([(b, .cells cs.toArray t (0,0))]::l))(hd:Nat.blt d c.n=true:=by rfl)(hg:gOk all fr g=some true:=by rfl):
  G c Q ks (.ops all (⟨some d, .alloc t,ty,pos,af,g⟩::rest)) fr l:=
 g_op rfl hd hg λa w F M=>Zay M λb w' M' a' F'=>hk b a' w' F' M'
theorem Zai(hx:Ev fr x=some v)(hv:v.cells=cs.toArray)(hk:∀b,G c Q ks (.ops all rest) ((d, .pointer (some ⟨b,0,none⟩))::fr) ([(b, .cells cs.toArray t (0,0))]::l))(hd:Nat.blt d c.n=true:=by rfl)(hg:gOk all fr g=some true:=by rfl):
  G c Q ks (.ops all (⟨some d, .box t x,ty,pos,af,g⟩::rest)) fr l:=
 g_op rfl hd hg λa w F M=>ZjX M (F.e hx) hv λb w' M' a' F'=>hk b a' w' F' M'
theorem Zgy(i:Nat) [hs:TSz c.P t 1](hx:Ev fr x=some (.pointer (some ⟨b,off,none⟩)))(hy:Ev fr y=some v)(h1:v.oneCell'=true)(hl:nthO l i=some [(b, .cells cs.toArray t' (0,0))])(hp:put cs off [v]=some cs')(hl':setO l i [(b, .cells cs'.toArray t' (0,0))]=some l')
  (hk:G c Q ks (.ops all rest) fr l'):G c Q ks (.ops all (⟨none, .store t x y,ty,pos,af,none⟩::rest)) fr l:=λa w F M=>
 ZaW rfl F (ZfA M (F.e hx) (F.e hy) h1 (ZeK hl hl').has hp (ZeK hl hl') λw' M' a' F'=>hk a' w' F' M')
theorem Zdf(i:Nat) [hs:TAgg c.P t n](hx:Ev fr x=some (.pointer (some ⟨b,off,none⟩)))(hy:Ev fr y=some (.agg vs.toArray))(hn:vs.length=n)(h1:vs.all (·.oneCell')=true)(hl:nthO l i=some [(b, .cells cs.toArray t' (0,0))])(hp:put cs off vs=some cs')(hl':setO l i [(b, .cells cs'.toArray t' (0,0))]=some l')
  (hk:G c Q ks (.ops all rest) fr l'):G c Q ks (.ops all (⟨none, .store t x y,ty,pos,af,none⟩::rest)) fr l:=λa w F M=>
 ZaW rfl F (Zap M (F.e hx) (F.e hy) hn h1 (ZeK hl hl').has hp (ZeK hl hl') λw' M' a' F'=>hk a' w' F' M')
theorem Zb6{xs:List Operand} [hb:Zad c.P f](hx:Ev fr x=some (.func (.func f) #[] #[]))(ha:evL fr xs=some vs)(hc:∀w,Mem c.S c.W w l.flatten->Cal c.P f vs.toArray w λu w'=>u=v/\Ext [] w w')
  (hk:G c Q ks (.ops all rest) ((d,v)::fr) l) (hd:Nat.blt d c.n=true:=by rfl) (hg:gOk all fr g=some true:=by rfl):G c Q ks (.ops all (⟨some d, .call ⟨.value x,xs.toArray,ts⟩,ty,pos,af,g⟩::rest)) fr l:=
 g_op rfl hd hg λa w F M=>Zav (F.e hx) (F.evs ha) (Cal.mono (hc w M) λu w' h a' F'=>hk a' w' (h.1▸F') (M.later h.2))
theorem g_if{x y:Code}{t:Bool}(hx:Ev fr o=some (.bool t))(ht:t=true->G c Q ks (.code x) fr l)(hf:t=false->G c Q ks (.code y) fr l):G c Q ks (.code (.cond o x y)) fr l:=λa w F M=>
 c_if F hx (λh=>ht h a w F M) (λh=>hf h a w F M)
theorem Zah(s:Nat){st:St}{b:Bool}(h:look fr s=some (.bool b))(ht:b=true->G c Q ks st ((s, .bool true)::fr) l)(hf:b=false->G c Q ks st ((s, .bool false)::fr) l):G c Q ks st fr l:=λa w F M=>by
 cases b
 ·exact hf rfl a w (F.know (F.at_ s _ h)) M
 ·exact ht rfl a w (F.know (F.at_ s _ h)) M
theorem ZdT{rvs:List ResultVar}{c:Cx}(hdf:c.df=[])(hr:fn.results=rvs.toArray)(hv:∀a w,Frm a c.n c.df fr->Mem c.S c.W w l.flatten->ZkC c.P a w rvs vs)(h:∀w,Mem c.S c.W w l.flatten->R (Zce vs) w):G c (Post c.P fn R) [] (.ext .ret) fr l:=λa w F M=>by
 have F':=F
 rw[hdf] at F'
 exact ZdP F' hr (hv a w F M) (h w M)
theorem Zae{t:Nat}{c:Cx}(hdf:c.df=[])(hr:fn.results=[ResultVar.tmp t].toArray)(hv:look fr t=some v)(h:∀w,Mem c.S c.W w l.flatten->R v w):G c (Post c.P fn R) [] (.ext .ret) fr l:=
 ZdT hdf hr (λa w F M=> .cons (.tmp (F.e hv)) .nil) h
theorem Zbo{t t':Nat}{v v':Value}{c:Cx}(hdf:c.df=[])(hr:fn.results=[ResultVar.tmp t,ResultVar.tmp t'].toArray)(hv:look fr t=some v)(hv':look fr t'=some v')(h:∀w,Mem c.S c.W w l.flatten->R (.tuple [v,v'].toArray) w):G c (Post c.P fn R) [] (.ext .ret) fr l:=
 ZdT hdf hr (λa w F M=> .cons (.tmp (F.e hv)) (.cons (.tmp (F.e hv')) .nil)) h
theorem Zbn(i:Nat){q b off n:Nat}{ty:TypeId}{c:Cx} [ht:TAgg c.P ty n](hdf:c.df=[])(hr:fn.results=[ResultVar.cell q ty].toArray)(hq:look fr q=some (.pointer (some ⟨b,off,none⟩)))(hl:nthO l i=some [(b, .cells cs.toArray t' fz)])(hv:seg cs off n=some vs)
  (h:∀w,Mem c.S c.W w l.flatten->R (.agg vs.toArray) w):G c (Post c.P fn R) [] (.ext .ret) fr l:=
 ZdT hdf hr (λa w F M=> .cons (.cell (F.e hq) (Zam ht.h (M.at_ _ (Zak hl)) (by simpa using hv))) .nil) h
theorem Zcb(i:Nat){q b off n s:Nat}{ty:TypeId}{c:Cx} [ht:TAgg c.P ty n](hdf:c.df=[])(hr:fn.results=[ResultVar.cell q ty,ResultVar.tmp s].toArray)(hq:look fr q=some (.pointer (some ⟨b,off,none⟩)))(hl:nthO l i=some [(b, .cells cs.toArray t' fz)])(hv:seg cs off n=some vs)(hu:look fr s=some u)
  (h:∀w,Mem c.S c.W w l.flatten->R (.tuple [.agg vs.toArray,u].toArray) w):G c (Post c.P fn R) [] (.ext .ret) fr l:=
 ZdT hdf hr (λa w F M=> .cons (.cell (F.e hq) (Zam ht.h (M.at_ _ (Zak hl)) (by simpa using hv))) (.cons (.tmp (F.e hu)) .nil)) h
theorem Zwn{x:Code}{flds:List (Nat×Nat×Nat)}{slcs:List Nat}(hf:(flds.all λq=>ZdU P q.1 q.2.1 q.2.2)=true)(hs:(slcs.all λt=>ZoH P t)=true)
  (hfn:P.funcs[f]? =some fn) (hb:fn.body=some x) (hn:fn.ntmps=n) (hle:Nat.ble vs.length n=true)
  (h:G ⟨P,none,n,[],S,W,flds,slcs,hf,hs⟩ (Post P fn R) [] (.code x) (Zfj 0 vs) []):Cal P f vs.toArray W R:=
 Zar S hfn hb hn hle λa w F M _=>h a w F M
theorem Zii{x y:Code}{t:Bool}(hx:Ev fr o=some (.bool t))(ht:t=true)(hk:G c Q ks (.code x) fr l):G c Q ks (.code (.cond o x y)) fr l:=λa w F M=>ZrC F hx ht (hk a w F M)
theorem Zij{x y:Code}{t:Bool}(hx:Ev fr o=some (.bool t))(ht:t=false)(hk:G c Q ks (.code y) fr l):G c Q ks (.code (.cond o x y)) fr l:=λa w F M=>ZmF F hx ht (hk a w F M)
theorem Zji(s:Nat){st:St}{b b':Bool}(h:look fr s=some (.bool b))(hb:b=b')(hk:G c Q ks st ((s, .bool b')::fr) l):G c Q ks st fr l:=λa w F M=>by
 subst hb
 exact hk a w (F.know (F.at_ s _ h)) M
structure LI(ι:Type)where
 μ:ι->Nat
 p:ι->Prop
 fi:ι->FN
 li:ι->Row
def LQ{ι:Type}(J:LI ι)(c:Cx)(Q:Exit->Act->World->Prop)(ks:List KF)(i:ι):Exit->Act->World->Prop
 | .normal,a,w=>∃j,J.μ j<J.μ i/\J.p j/\Frm a c.n c.df (J.fi j)/\Mem c.S c.W w (J.li j).flatten
 |e,a,w=>KQ c Q ks e a w
theorem Zau{ι:Type}(J:LI ι)(i0:ι){x:Code}(h0:J.p i0)(hfr:∀a,Frm a c.n c.df fr->Frm a c.n c.df (J.fi i0))(hl:(J.li i0).Sublist l)
  (h:∀i,J.p i->G c (LQ J c Q ks i) [] (.code x) (J.fi i) (J.li i)):G c Q ks (.code (.loop x)) fr l:=λa w F M=>by
 refine ZbK (λm a w=>∃i,m=J.μ i/\J.p i/\Frm a c.n c.df (J.fi i)/\Mem c.S c.W w (J.li i).flatten) (J.μ i0) ⟨i0,rfl,h0,hfr a F,M.sub (subO hl)⟩ ?_
 rintro m a w ⟨i,rfl,hp,F,M⟩
 refine wpIn_mono (h i hp a w F M) λe a w hq=>?_
 cases e with
 |normal=>
  obtain⟨j,h1,h2,h3,h4⟩:=hq
  exact⟨_,h1,j,rfl,h2,h3,h4⟩
 |exit _=>exact hq
 |goto _=>exact hq
 |ret=>exact hq
 |panic _=>exact hq
 |outgrown=>exact hq
theorem Zgz{ι:Type}{J:LI ι}{i:ι}(j:ι)(h2:J.p j)(h1:J.μ j<J.μ i)(hfr:∀a,Frm a c.n c.df fr->Frm a c.n c.df (J.fi j))(hl:(J.li j).Sublist l):G c (LQ J c Q ks i) [] (.ext .normal) fr l:=λa w F M=>⟨j,h1,h2,hfr a F,M.sub (subO hl)⟩
theorem Zuq{ι:Type}{J:LI ι}{i:ι}{id:Nat}(h:G c Q ks (.ext (.exit id)) fr l):G c (LQ J c Q ks i) [] (.ext (.exit id)) fr l:=h
theorem Zur{ι:Type}{J:LI ι}{i:ι}(h:G c Q ks (.ext .ret) fr l):G c (LQ J c Q ks i) [] (.ext .ret) fr l:=h
theorem g_bs{t e:TypeId}{len sz:Nat}{xs:List (Nat×Operand)}{parts:List (Nat×List Value)}{zs cs:List Value} [ht:TU c.P t (.slice e)] [hs:TSz c.P e sz] [hz:ZcD c.P e zs](hv:evP fr xs=some parts)
  (hle:Nat.ble (len*sz) 16777216=true) (hzl:Nat.beq zs.length sz=true) (hp:ZaD (Zcu len sz) (Zc4 zs (len*sz)) parts=some cs)
  (hk:∀b,G c Q ks (.ops all rest) ((d, .slice (some ⟨b,0,none⟩) len len)::fr) ([(b, .cells cs.toArray e (0,0))]::l)) (hd:Nat.blt d c.n=true:=by rfl) (hg:gOk all fr g=some true:=by rfl):G c Q ks (.ops all (⟨some d, .buildSlice t len xs.toArray,ty,pos,af,g⟩::rest)) fr l:=
 g_op rfl hd hg λa w F M=>ZaC F M hv hle hzl hp λb w' M' a' F'=>hk b a' w' F' M'
theorem vCe(h:p:=by
  obtain⟨r',q1,q2⟩:=ZcL hi (hf e')
  exact q2.trans (List.Perm.append_left _ ((List.perm_append_left_iff ent).1 (q1.symm.trans p1)))):p:=h
theorem ZaY(i j:Nat){α:Type}{enc:α->List Value}{out:List α}{x0:α}{st xt e:TypeId}{sz by_ bx kx:Nat}{f:EN->Row} [hst:TU c.P st (.slice e)] [hel:TEl c.P e sz by_] [hxt:TNI c.P xt]
  (hx:Ev fr x=some v) (hy:Ev fr y=some (.slice (some ⟨bx,0,none⟩) 1 kx)) (hO:OwnS e sz v out.length (encL enc out) ent) (hi:nthO l i=some ent) (hj:nthO l j=some [(bx, .cells (enc x0).toArray t' fz)]) (hz:(enc x0).length=sz) (hbd:(out.length+1)*by_<=140737488355328)
  (hf:∀e',setO l i e'=some (f e')) (hk:∀v' ent',OwnS e sz v' (out++[x0]).length (encL enc (out++[x0])) ent'->G c Q ks (.ops all rest) ((d,v')::fr) (f ent')) (h1:(enc x0).all (·.oneCell')=true) (hd:Nat.blt d c.n=true:=by rfl) (hg:gOk all fr g=some true:=by rfl) (hln:out.length+1<=9223372036854775807:=by first|omega|(simp only[List.length_nil];omega)):
  G c Q ks (.ops all (⟨some d, .call ⟨.builtin .append, #[x,y], #[st,xt]⟩,ty,pos,af,g⟩::rest)) fr l:=by
 refine g_op rfl hd hg λa w F M=>?_
 obtain⟨r,p1,_⟩:=ZcL hi (hf ent)
 have hp:∀e',(f e').flatten.Perm (e'++r):=λe'=>by
  exact vCe
 have hX:Zcc c.P w (.slice (some ⟨bx,0,none⟩) 1 kx) 1 sz (enc x0):=Zcc.cells' (M.at_ _ (Zak hj)) (by rw[Nat.one_mul,<-hz];simpa using ZfG [] (enc x0) []) h1
 refine Zd5 (f:=λe'=>r++e') hO (M.perm (p1.trans List.perm_append_comm)) ?_ (F.e hx) (F.e hy) hX hbd (λv' ent' w' hO' M'=>?_) hln
 ·exact .app .here
 ·exact λa' F'=>hk v' ent' hO' a' w' F' (M'.perm (List.perm_append_comm.trans (hp ent').symm))
theorem Zba{st:St}(hk:G c Q ks st fr ([]::l)):G c Q ks st fr l:=hk
end
def fldT:List (Nat×Nat×Nat):=[(7,0,0),(7,1,1),(7,2,2),(7,3,3),(8,0,0),(8,1,1),(8,2,2),(8,3,3),(13,0,0),(13,1,1),(14,0,0),(14,1,1),(18,0,0),(19,0,0),(29,0,0),(29,1,1),(29,2,2),(29,3,3),(29,4,4),(30,0,0),(30,1,1),(30,2,2),(30,3,3),(30,4,4),(50,0,0),(50,1,1),(51,0,0),(51,1,1),(52,0,0),(52,1,1),(52,2,2),(52,3,3),(52,4,4),(52,5,5),(52,6,6),(52,7,7),(52,8,8),(52,9,9),(52,10,10),(52,11,11),(52,12,12),(53,0,0),(53,1,1),(53,2,2),(53,3,3),(53,4,4),(53,5,5),(53,6,6),(53,7,7),(53,8,8),(53,9,9),(53,10,10),(53,11,11),(53,12,12),(60,0,0),(60,1,1),(61,0,0),(61,1,1),(64,0,0),(64,1,16),(65,0,0),(65,1,16),(66,0,0),(66,1,17),(66,2,34),(67,0,0),(67,1,17),(67,2,34),(68,0,0),(68,1,1),(68,2,2),(68,3,3),(68,4,4),(68,5,39),(69,0,0),(69,1,1),(69,2,2),(69,3,3),(69,4,4),(69,5,39),(71,0,0),(71,1,1),(72,0,0),(72,1,1),(73,0,0),(73,1,35),(73,2,36),(73,3,38),(73,4,39),(74,0,0),(74,1,35),(74,2,36),(74,3,38),(74,4,39),(75,0,0),(75,1,35),(75,2,36),(75,3,38),(76,0,0),(76,1,35),(76,2,36),(76,3,38),(84,0,0),(84,1,17),(85,0,0),(85,1,17),(95,0,0),(95,1,1),(96,0,0),(96,1,1),(99,0,0),(99,1,35),(100,0,0),(100,1,35),(112,0,0),(112,1,1),(113,0,0),(113,1,1),(116,0,0),(116,1,1),(116,2,2),(116,3,3),(116,4,4),(117,0,0),(117,1,1),(117,2,2),(117,3,3),(117,4,4),(121,0,0),(121,1,1),(121,2,2),(121,3,3),(121,4,4),(122,0,0),(122,1,1),(122,2,2),(122,3,3),(122,4,4),(123,0,0),(123,1,1),(123,2,6),(123,3,7),(124,0,0),(124,1,1),(124,2,6),(124,3,7),(141,0,0),(141,1,14),(141,2,15),(141,3,16),(141,4,17),(142,0,0),(142,1,14),(142,2,15),(142,3,16),(142,4,17),(165,0,0),(165,1,35),(165,2,37),(166,0,0),(166,1,35),(166,2,37),(170,0,0),(170,1,35),(170,2,36),(170,3,37),(170,4,38),(170,5,39),(171,0,0),(171,1,35),(171,2,36),(171,3,37),(171,4,38),(171,5,39),(309,0,0),(309,1,1),(309,2,2),(310,0,0),(310,1,1),(310,2,2),(364,0,0),(364,1,1),(364,2,2),(364,3,3),(365,0,0),(365,1,1),(365,2,2),(365,3,3),(376,0,0),(376,1,1),(376,2,2),(376,3,3),(376,4,4),(376,5,5),(376,6,6),(376,7,7),(376,8,8),(376,9,9),(376,10,10),(377,0,0),(377,1,1),(377,2,2),(377,3,3),(377,4,4),(377,5,5),(377,6,6),(377,7,7),(377,8,8),(377,9,9),(377,10,10)]
def slcT:List Nat:=[22,26,27,28,32,43,44,45,46,47,48,49,55,59,87,94,126,216,235]
theorem Zbj:(fldT.all λq=>ZdU prog q.1 q.2.1 q.2.2)=true:=by kernel_rfl
theorem Zbi:(slcT.all λt=>ZoH prog t)=true:=by kernel_rfl
def FD(c:Cx)(Q:Exit->Act->World->Prop)(ks:List KF)(ol:List Oper)(n k:Nat)(rest:List Oper)(fr:FN)(l:Row):Prop:=
 ∀a w Vs,Mem c.S c.W w l.flatten->Zb2 ol.toArray n=true->MW ⟨Zg2,[],[],c.P,c.r,ol.toArray,n,c.n,c.df,a,w,KQ c Q ks,[],[]⟩ k rest fr Vs noT
section
variable {c:Cx} {Q:Exit->Act->World->Prop} {ks:List KF} {fr fr':FN} {l:Row} {ol rest rest':List Oper} {n k k':Nat} {d:Nat} {op:Op} {ty:TypeId} {pos:String} {af:Array Edge} {g:Option (Nat×Bool)}
theorem ZyZ{id:Nat}(n nt:Nat) [hm:TMix c.P](hnt:c.n=nt)(hchk:(Zb2 ol.toArray n&&Zdg ol.toArray n&&Nat.ble n ol.length&&Zg8 ol.toArray n nt&&ZcH ol.toArray n [])=true)(h:FD c Q ks ol n 0 ol fr l):G c Q ks (.code (.region id ol.toArray true)) fr l:=λa w F M=>
 Za4 n F (by rw[hnt];exact hchk) λw1 hE hok=>h a w1 [] (M.later hE) hok
theorem fd_c(h:∀a w,Frm a c.n c.df fr->Mem c.S c.W w l.flatten->OpTo c.P ⟨some d,op,ty,pos,af,g⟩ a.eval w λx w'=>Ext [] w w'/\x=v)
  (hk:FD c Q ks ol n (k+1) rest ((d,v)::fr) l) (hlt:flo [] [] [] n k op=true:=by rfl) (hd:Nat.blt d c.n=true:=by rfl) (hg:gOk ol.toArray fr g=some true:=by rfl):FD c Q ks ol n k (⟨some d,op,ty,pos,af,g⟩::rest) fr l:=λa w Vs M hok=>by
 rcases ZfE hg with rfl|⟨j,b,t,rfl,ht,hl⟩
 ·exact mK hok hlt hd (λa' w' F he=>h a' w' F (M.later he)) (hk a w _ M hok)
 ·exact mKG hok hlt hd ht hl (λa' w' F he=>h a' w' F (M.later he)) (hk a w _ M hok)
theorem fd_v(h:∀a w,Frm a c.n c.df fr->Mem c.S c.W w l.flatten->∀R:Value->World->Prop,R v w->OpTo c.P ⟨some d,op,ty,pos,af,g⟩ a.eval w R)
  (hk:FD c Q ks ol n (k+1) rest ((d,v)::fr) l) (hlt:flo [] [] [] n k op=true:=by rfl) (hd:Nat.blt d c.n=true:=by rfl) (hg:gOk ol.toArray fr g=some true:=by rfl):FD c Q ks ol n k (⟨some d,op,ty,pos,af,g⟩::rest) fr l:=
 fd_c (λa w F M=>h a w F M _ ⟨Ext.refl _ _,rfl⟩) hk hlt hd hg
theorem ZwE{xs:List Operand} [hb:Zad c.P f](hx:Ev fr x=some (.func (.func f) #[] #[]))(ha:evL fr xs=some vs)(hc:∀w,Mem c.S c.W w l.flatten->Cal c.P f vs.toArray w λu w'=>u=v/\Ext [] w w')
  (hk:FD c Q ks ol n (k+1) rest ((d,v)::fr) l) (hlt:flo [] [] [] n k (.call ⟨.value x,xs.toArray,ts⟩)=true:=by rfl) (hd:Nat.blt d c.n=true:=by rfl) (hg:gOk ol.toArray fr g=some true:=by rfl):FD c Q ks ol n k (⟨some d, .call ⟨.value x,xs.toArray,ts⟩,ty,pos,af,g⟩::rest) fr l:=
 fd_c (λa w F M=>Zav (F.e hx) (F.evs ha) (Cal.mono (hc w M) λu w' h=>⟨h.2,h.1⟩)) hk hlt hd hg
theorem Zy8(hk:FD c Q ks ol n (k+1) rest ((d,undef)::fr) l)(hlt:flo [] [] [] n k op=true:=by rfl)(hd:Nat.blt d c.n=true:=by rfl)(hg:gOk ol.toArray fr g=some false:=by rfl):FD c Q ks ol n k (⟨some d,op,ty,pos,af,g⟩::rest) fr l:=λa w Vs M hok=>by
 obtain⟨j,b,t,v,rfl,ht,hl,ho⟩:=Zin hg
 exact mOff hok hlt hd ht hl ho (hk a w _ M hok)
theorem Zrh(hn:Nat.beq k n=true)(hef:ZcH ol.toArray n []=true)(hk:G c Q ks (.ops ol.toArray rest) fr l):FD c Q ks ol n k rest fr l:=λa w Vs M hok=>
 ZiG hn hef λa' w' F he _ _ _ _=>hk a' w' F (M.later he)
theorem ZwC(h:∀t,look fr' t=look fr t)(hk:FD c Q ks ol n k rest fr' l):FD c Q ks ol n k rest fr l:=λa w Vs M hok=>by
 intro h1 h2 h3 h4 hC
 exact hk a w Vs M hok h1 h2 h3 h4 ⟨λt v hv=>hC.c t v (by rw[<-h];exact hv)⟩
theorem ZqI{s:Nat}(h:look fr s=some v)(t:Nat):look ((s,v)::fr) t=look fr t:=by
 cases hb:s.beq t
 ·show(match s.beq t with|true=>some v|false=>look fr t)=look fr t
  rw[hb]
 ·show(match s.beq t with|true=>some v|false=>look fr t)=look fr t
  rw[hb,<-Nat.eq_of_beq_eq_true hb,h]
theorem Zmx(s:Nat){b b':Bool}(h:look fr s=some (.bool b))(hb:b=b')(hk:FD c Q ks ol n k rest ((s, .bool b')::fr) l):FD c Q ks ol n k rest fr l:=by
 subst hb
 exact ZwC (ZqI h) hk
theorem ZbQ(s:Nat){b:Bool}(h:look fr s=some (.bool b))(ht:b=true->FD c Q ks ol n k rest ((s, .bool true)::fr) l)(hf:b=false->FD c Q ks ol n k rest ((s, .bool false)::fr) l):FD c Q ks ol n k rest fr l:=by
 cases b
 ·exact Zmx s h rfl (hf rfl)
 ·exact Zmx s h rfl (ht rfl)
def runF(c:Cx)(all:Array Oper)(n:Nat):Nat->Nat->List Oper->FN->Nat×List Oper×FN
 |m+1,k,o::rest,fr=>match o.dst with
  |some d=>match Nat.blt d c.n&&flo [] [] [] n k o.op with
   |true=>match gOk all fr o.guard with
    |some true=>match evO c fr o.op with
     |some v=>runF c all n m (k+1) rest ((d,v)::fr)
     |none=>(k,o::rest,fr)
    |some false=>runF c all n m (k+1) rest ((d,undef)::fr)
    |none=>(k,o::rest,fr)
   |false=>(k,o::rest,fr)
  |none=>(k,o::rest,fr)
 | _,k,rest,fr=>(k,rest,fr)
theorem fR:∀(m:Nat){k k':Nat}{rest rest':List Oper}{fr fr':FN},runF c ol.toArray n m k rest fr=(k',rest',fr')->FD c Q ks ol n k' rest' fr' l->FD c Q ks ol n k rest fr l
 |0,k,k',rest,rest',fr,fr',h,hk=>by
  cases rest<;>cases h<;>exact hk
 |m+1,k,k',[],rest',fr,fr',h,hk=>by
  cases h
  exact hk
 |m+1,k,k',o::rest,rest',fr,fr',h,hk=>by
  obtain⟨dst,op,ty,pos,af,g⟩:=o
  unfold runF at h
  split at h
  ·rename_i d hd0
   dsimp only at hd0
   subst hd0
   split at h
   ·rename_i hb
    simp only[Bool.and_eq_true] at hb
    split at h
    ·rename_i hg
     split at h
     ·rename_i v hv
      exact fd_v (λa w F M R r=>Zjt F hv r) (fR m h hk) hb.2 hb.1 hg
     ·cases h
      exact hk
    ·rename_i hg
     exact Zy8 (fR m h hk) hb.2 hb.1 hg
    ·cases h
     exact hk
   ·cases h
    exact hk
  ·cases h
   exact hk
end
section
variable {c:Cx} {Q:Exit->Act->World->Prop} {ks:List KF} {fr:FN} {l:Row} {ol rest:List Oper} {nn kx:Nat} {d:Nat} {ty:TypeId} {pos:String} {af:Array Edge} {g:Option (Nat×Bool)}
section arith
variable {t t':TypeId} {x y:Operand} {k:IntKind} {m n s:Int}
theorem ZfL(hx:Ev fr x=some (.int k m))(hy:Ev fr y=some (.int k n))(hs:k.wrap (m-n)=s)(hk:FD c Q ks ol nn (kx+1) rest ((d, .int k s)::fr) l)(hlt:flo [] [] [] nn kx (.binOp .sub t x y t')=true:=by rfl)(hd:Nat.blt d c.n=true:=by rfl)(hg:gOk ol.toArray fr g=some true:=by rfl):
  FD c Q ks ol nn kx (⟨some d, .binOp .sub t x y t',ty,pos,af,g⟩::rest) fr l:=fd_v (λa w F M R r=>Zl4 (F.e hx) (F.e hy) hs r) hk hlt hd hg
theorem Zy9(hx:Ev fr x=some (.int k m))(hy:Ev fr y=some (.int k n))(hs:k.wrap (m*n)=s)(hk:FD c Q ks ol nn (kx+1) rest ((d, .int k s)::fr) l)(hlt:flo [] [] [] nn kx (.binOp .mul t x y t')=true:=by rfl)(hd:Nat.blt d c.n=true:=by rfl)(hg:gOk ol.toArray fr g=some true:=by rfl):
  FD c Q ks ol nn kx (⟨some d, .binOp .mul t x y t',ty,pos,af,g⟩::rest) fr l:=fd_v (λa w F M R r=>Zl5 (F.e hx) (F.e hy) hs r) hk hlt hd hg
theorem ZwD{t1 t2:TypeId}{ds:TypeDesc}{k':IntKind}(hx:Ev fr x=some (.int k m)) [hs:TU c.P t1 ds] [ht:TU c.P t2 (.int k')](hm:k'.wrap m=n)(hk:FD c Q ks ol nn (kx+1) rest ((d, .int k' n)::fr) l)(hlt:flo [] [] [] nn kx (.convert t1 t2 x)=true:=by rfl)(hd:Nat.blt d c.n=true:=by rfl)(hg:gOk ol.toArray fr g=some true:=by rfl):
  FD c Q ks ol nn kx (⟨some d, .convert t1 t2 x,ty,pos,af,g⟩::rest) fr l:=fd_v (λa w F M R r=>Zia (F.e hx) hm r) hk hlt hd hg
end arith
theorem ZnW(i:Nat) [ht:TAgg c.P t n](hx:Ev fr x=some (.pointer (some ⟨b,off,none⟩)))(hl:nthO l i=some [(b, .cells cs.toArray t' fz)])(hv:seg cs off n=some vs)
  (hk:FD c Q ks ol nn (kx+1) rest ((d, .agg vs.toArray)::fr) l) (hlt:flo [] [] [] nn kx (.load t x)=true:=by rfl) (hd:Nat.blt d c.n=true:=by rfl) (hg:gOk ol.toArray fr g=some true:=by rfl):FD c Q ks ol nn kx (⟨some d, .load t x,ty,pos,af,g⟩::rest) fr l:=
 fd_v (λa w F M R r=>ZbM (F.e hx) (M.at_ _ (Zak hl)) hv r) hk hlt hd hg
theorem Zjq [ht:TOne c.P t](hx:Ev fr x=some (.pointer (some ⟨b,off,none⟩)))(hb:∀w',Ext c.S c.W w'->w'.heap[b]? =some (.cells cs.toArray t' fz))(hv:nth cs off=some v)
  (hk:FD c Q ks ol nn (kx+1) rest ((d,v)::fr) l) (hlt:flo [] [] [] nn kx (.load t x)=true:=by rfl) (hd:Nat.blt d c.n=true:=by rfl) (hg:gOk ol.toArray fr g=some true:=by rfl):FD c Q ks ol nn kx (⟨some d, .load t x,ty,pos,af,g⟩::rest) fr l:=
 fd_v (λa w F M R r=>ZcB (F.e hx) (hb w M.ext) hv r) hk hlt hd hg
theorem Zb8 [ht:TAgg c.P t n](hx:Ev fr x=some (.pointer (some ⟨b,off,none⟩)))(hb:∀w',Ext c.S c.W w'->w'.heap[b]? =some (.cells cs.toArray t' fz))(hv:seg cs off n=some vs)
  (hk:FD c Q ks ol nn (kx+1) rest ((d, .agg vs.toArray)::fr) l) (hlt:flo [] [] [] nn kx (.load t x)=true:=by rfl) (hd:Nat.blt d c.n=true:=by rfl) (hg:gOk ol.toArray fr g=some true:=by rfl):FD c Q ks ol nn kx (⟨some d, .load t x,ty,pos,af,g⟩::rest) fr l:=
 fd_v (λa w F M R r=>ZbM (F.e hx) (hb w M.ext) hv r) hk hlt hd hg
theorem Zux{t e:TypeId}{x i:Operand}{k:IntKind}{b o len cap sz:Nat}{j:Int}(hx:Ev fr x=some (.slice (some ⟨b,o,none⟩) len cap))(hi:Ev fr i=some (.int k j)) [ht:TU c.P t (.slice e)] [hs:TSz c.P e sz](h0:0<=j)(h1:j<len)
  (hk:FD c Q ks ol nn (kx+1) rest ((d, .pointer (some ⟨b,o+j.toNat*sz,none⟩))::fr) l) (hlt:flo [] [] [] nn kx (.indexAddr t x i)=true:=by rfl) (hd:Nat.blt d c.n=true:=by rfl) (hg:gOk ol.toArray fr g=some true:=by rfl):FD c Q ks ol nn kx (⟨some d, .indexAddr t x i,ty,pos,af,g⟩::rest) fr l:=
 fd_v (λa w F M R r=>Zex (F.e hx) (F.e hi) h0 h1 r) hk hlt hd hg
theorem Zuw{t e e':TypeId}(hx:Ev fr x=some v)(hO:OwnS e' sz v n xs ent) [ht:TU c.P t (.slice e)]
  (hk:FD c Q ks ol nn (kx+1) rest ((d, .int .i64 n)::fr) l) (hlt:flo [] [] [] nn kx (.call ⟨.builtin .len, #[x], #[t]⟩)=true:=by rfl) (hd:Nat.blt d c.n=true:=by rfl) (hg:gOk ol.toArray fr g=some true:=by rfl):FD c Q ks ol nn kx (⟨some d, .call ⟨.builtin .len, #[x], #[t]⟩,ty,pos,af,g⟩::rest) fr l:=
 fd_v (λa w F M R r=>ZjV (F.e hx) hO r) hk hlt hd hg
theorem Zjr{kk:List LK}{b:Bool} [ht:TEq c.P t kk](hx:Ev fr x=some (.agg xs.toArray))(hy:Ev fr y=some (.agg ys.toArray))(fx:ZaZ kk xs=true)(fy:ZaZ kk ys=true)(he:eqVs xs ys=b)
  (hk:FD c Q ks ol nn (kx+1) rest ((d, .bool b)::fr) l) (hlt:flo [] [] [] nn kx (.binOp .eql t x y t')=true:=by rfl) (hd:Nat.blt d c.n=true:=by rfl) (hg:gOk ol.toArray fr g=some true:=by rfl):FD c Q ks ol nn kx (⟨some d, .binOp .eql t x y t',ty,pos,af,g⟩::rest) fr l:=
 fd_v (λa w F M R r=>Zl7 (F.e hx) (F.e hy) fx fy he r) hk hlt hd hg
end
section
variable {c:Cx} {Q:Exit->Act->World->Prop} {ks:List KF} {st:St} {fr:FN} {l:Row}
structure LJ(ι:Type)where
 p:ι->Prop
 fi:ι->FN
 li:ι->Row
def JQ{ι:Type}(J:LJ ι)(c:Cx)(Q:Exit->Act->World->Prop)(ks:List KF):Exit->Act->World->Prop
 | .normal,a,w=>∃j,J.p j/\Frm a c.n c.df (J.fi j)/\Mem c.S c.W w (J.li j).flatten
 |e,a,w=>KQ c Q ks e a w
theorem JQ.of{ι:Type}{J:LJ ι}{e:Exit}{a:Act}{w:World}(h:JQ J c Q ks e a w)(hk:∀j,J.p j->G c Q ks (.ext .normal) (J.fi j) (J.li j)):KQ c Q ks e a w:=by
 cases e with
 |normal=>
  obtain⟨j,h2,h3,h4⟩:=h
  exact hk j h2 a w h3 h4
 |exit _=>exact h
 |goto _=>exact h
 |ret=>exact h
 |panic _=>exact h
 |outgrown=>exact h
theorem Zc0{ι:Type}(J:LJ ι){x:Code}(h1:G c (JQ J c Q ks) [] (.code x) fr l)(h2:∀j,J.p j->G c Q ks (.ext .normal) (J.fi j) (J.li j)):G c Q ks (.code x) fr l:=λa w F M=>
 wpIn_mono (h1 a w F M) λe a w h=>JQ.of h h2
theorem Zra{ι:Type}{J:LJ ι}(j:ι)(h2:J.p j)(hfr:∀a,Frm a c.n c.df fr->Frm a c.n c.df (J.fi j))(hl:(J.li j).Sublist l):G c (JQ J c Q ks) [] (.ext .normal) fr l:=λa w F M=>⟨j,h2,hfr a F,M.sub (subO hl)⟩
theorem g_jX{ι:Type}{J:LJ ι}{id:Nat}(h:G c Q ks (.ext (.exit id)) fr l):G c (JQ J c Q ks) [] (.ext (.exit id)) fr l:=h
end
def NwS(n0 len:Nat)(o:Obj):Pred:=λv w=>∃b,v= .slice (some ⟨b,0,none⟩) len len/\n0<=b/\w.heap[b]? =some o
theorem NwS.stays(n0 len:Nat)(o:Obj):Zfw Zg2 (NwS n0 len o):=λv w w'⟨b,h1,h2,h3⟩h=>⟨b,h1,h2,by
 rw[Ext.block h b (Array.getElem?_eq_some_iff.1 h3).1 Q5];exact h3⟩
section
variable {c:Cx} {Q:Exit->Act->World->Prop} {ks:List KF} {fr:FN} {l:Row} {ol rest:List Oper} {n k:Nat} {d:Nat} {ty:TypeId} {pos:String} {af:Array Edge}
theorem vCw(h:p:=by
  exact hk b a' w' (F.know h4) ((M.later he).cons h3 (λq hq e=>by have:=M.lt hq;omega) (.inr (Nat.le_trans M.ext.size h2)))):p:=h
theorem Zmy{t e:TypeId}{len sz:Nat}{xs:List (Nat×Operand)}{parts:List (Nat×List Value)}{zs cs:List Value} [ht:TU c.P t (.slice e)] [hs:TSz c.P e sz] [hz:ZcD c.P e zs](hv:evP fr xs=some parts)
  (hle:Nat.ble (len*sz) 16777216=true) (hzl:Nat.beq zs.length sz=true) (hp:ZaD (Zcu len sz) (Zc4 zs (len*sz)) parts=some cs)
  (hk:∀b,G c Q ks (.ops ol.toArray rest) ((d, .slice (some ⟨b,0,none⟩) len len)::fr) ([(b, .cells cs.toArray e (0,0))]::l)) (hn:Nat.beq (k+1) n=true:=by rfl) (hef:ZcH ol.toArray n []=true:=by rfl) (hlt:flo [] [] [] n k (.buildSlice t len xs.toArray)=true:=by rfl) (hd:Nat.blt d c.n=true:=by rfl) (hnd:ZcU d fr=true:=by rfl) (hat:(ol[k]?.bind (·.dst))=some d:=by rfl):
  FD c Q ks ol n k (⟨some d, .buildSlice t len xs.toArray,ty,pos,af,none⟩::rest) fr l:=λa w Vs M hok=>by
 intro hlen
 refine mX (V:=NwS w.heap.size len (.cells cs.toArray e (0,0))) hok hlt hnd (NwS.stays _ _ _) (λa' w' F' E' D'=>ZaC F' (Mem.start [] w') hv hle hzl hp λb w'' M''=>⟨M''.ext,b,rfl,Nat.le_trans E'.size ((M''.own _ List.mem_cons_self).resolve_left Q5),M''.heap .here⟩) (ZiG hn hef λa' w' F he hX _ _ _=>?_) hlen
 obtain⟨b,h1,h2,h3⟩:=hX k (NwS w.heap.size len (.cells cs.toArray e (0,0))) (by rw[<-hlen];simp)
 have h4:a'.tmps.getD d undef= .slice (some ⟨b,0,none⟩) len len:=by
  unfold ZaP at h1
  dsimp only at h1
  rw[List.getElem?_toArray,hat] at h1
  exact h1
 exact vCw
theorem ZwF [hz:ZcD c.P t cs](hk:∀b,G c Q ks (.ops ol.toArray rest) ((d, .pointer (some ⟨b,0,none⟩))::fr) ([(b, .cells cs.toArray t (0,0))]::l))(hn:Nat.beq (k+1) n=true:=by rfl)(hef:ZcH ol.toArray n []=true:=by rfl)(hlt:(Nat.blt k n&& !([]:List Nat).contains k&&(ZdO [] k&&Zdn [] k))=true:=by rfl)(hd:Nat.blt d c.n=true:=by rfl)(hnd:ZcU d fr=true:=by rfl)(hat:(ol[k]?.bind (·.dst))=some d:=by rfl):
  FD c Q ks ol n k (⟨some d, .alloc t,ty,pos,af,none⟩::rest) fr l:=λa w Vs M hok=>by
 intro hlen
 refine mAl (o0:= .cells cs.toArray t (0,0)) hok hlt hnd (Al.stays _ _) (λw=>Ext.alloc w _) (λa' w' F' E'=>Zh0) (ZiG hn hef λa' w' F he hX _ _ _=>?_) hlen
 obtain⟨b,h1,h2,h3⟩:=hX k (Al w.heap.size (.cells cs.toArray t (0,0))) (by rw[<-hlen];simp)
 have h4:a'.tmps.getD d undef= .pointer (some ⟨b,0,none⟩):=by
  unfold ZaP at h1
  dsimp only at h1
  rw[List.getElem?_toArray,hat] at h1
  exact h1
 exact vCw
end
section
variable {c:Cx} {Q:Exit->Act->World->Prop} {ks:List KF} {fr:FN} {l:Row} {all rest ol:List Oper} {aa:Array Oper} {nn kx:Nat} {d:Nat} {ty:TypeId} {pos:String} {af:Array Edge} {g:Option (Nat×Bool)}
theorem Zlh{kk:List LK}{b:Bool} [ht:TEq c.P t kk](hx:Ev fr x=some (.agg xs.toArray))(hy:Ev fr y=some (.agg ys.toArray))(fx:ZaZ kk xs=true)(fy:ZaZ kk ys=true)(he:eqVs xs ys=b)
  (hk:G c Q ks (.ops aa rest) ((d, .bool !b)::fr) l) (hd:Nat.blt d c.n=true:=by rfl) (hg:gOk aa fr g=some true:=by rfl):G c Q ks (.ops aa (⟨some d, .binOp .neq t x y t',ty,pos,af,g⟩::rest)) fr l:=
 g_v (λa w F M R r=>Zqp (F.e hx) (F.e hy) fx fy he r) hk rfl hd hg
theorem Zlo{kk:List LK}{b:Bool} [ht:TEq c.P t kk](hx:Ev fr x=some (.agg xs.toArray))(hy:Ev fr y=some (.agg ys.toArray))(fx:ZaZ kk xs=true)(fy:ZaZ kk ys=true)(he:eqVs xs ys=b)
  (hk:FD c Q ks ol nn (kx+1) rest ((d, .bool !b)::fr) l) (hlt:flo [] [] [] nn kx (.binOp .neq t x y t')=true:=by rfl) (hd:Nat.blt d c.n=true:=by rfl) (hg:gOk ol.toArray fr g=some true:=by rfl):FD c Q ks ol nn kx (⟨some d, .binOp .neq t x y t',ty,pos,af,g⟩::rest) fr l:=
 fd_v (λa w F M R r=>Zqp (F.e hx) (F.e hy) fx fy he r) hk hlt hd hg
end
section
variable {c:Cx} {Q:Exit->Act->World->Prop} {ks:List KF} {fr:FN} {l:Row}
theorem Zut{ι:Type}(J:LJ ι){x:Code}{id:Nat}(h1:G c (JQ J c Q ks) [.blk id] (.code x) fr l)(h2:∀j,J.p j->G c Q ks (.ext .normal) (J.fi j) (J.li j)):G c Q (.blk id::ks) (.code x) fr l:=λa w F M=>
 wpIn_mono (h1 a w F M) λe a w h=>by
  cases e with
  |exit i=>
   show(if i=id then KQ c Q ks .normal a w else KQ c Q ks (.exit i) a w)
   have h':(if i=id then JQ J c Q ks .normal a w else JQ J c Q ks (.exit i) a w):=h
   split
   ·rename_i e
    rw[if_pos e] at h'
    exact JQ.of h' h2
   ·rename_i e
    rw[if_neg e] at h'
    exact h'
  |normal=>exact JQ.of (e:= .normal) h h2
  |goto _=>exact h
  |ret=>exact h
  |panic _=>exact h
  |outgrown=>exact h
end
section
variable {c:Cx} {Q:Exit->Act->World->Prop} {ks:List KF} {fr:FN} {l:Row} {aa:Array Oper} {rest:List Oper} {d:Nat} {ty:TypeId} {pos:String} {af:Array Edge} {g:Option (Nat×Bool)}
theorem ZaU{ι:Type}(val:ι->Value)(p:ι->Prop)(li:ι->Row){xs:List Operand} [hb:Zad c.P f](hx:Ev fr x=some (.func (.func f) #[] #[]))(ha:evL fr xs=some vs)
  (hc:∀w,Mem c.S c.W w l.flatten->Cal c.P f vs.toArray w λv w'=>∃i,v=val i/\p i/\Mem [] w w' (li i).flatten)
  (hk:∀i,p i->G c Q ks (.ops aa rest) ((d,val i)::fr) (li i++l)) (hd:Nat.blt d c.n=true:=by rfl) (hg:gOk aa fr g=some true:=by rfl):G c Q ks (.ops aa (⟨some d, .call ⟨.value x,xs.toArray,ts⟩,ty,pos,af,g⟩::rest)) fr l:=
 g_op rfl hd hg λa w F M=>Zav (F.e hx) (F.evs ha) (Cal.mono (hc w M) λu w' h a' F'=>by
  obtain⟨i,rfl,h2,N⟩:=h
  exact hk i h2 a' w' F' (by rw[List.flatten_append];exact M.joins N))
end
section
variable {c:Cx} {Q:Exit->Act->World->Prop} {ks:List KF} {fr:FN} {l:Row} {aa:Array Oper} {ol rest:List Oper} {nn kx d:Nat} {ty:TypeId} {pos:String} {af:Array Edge} {g:Option (Nat×Bool)} {κ:Type} [DecidableEq κ] {kv:κ->Value} {ok:κ->Prop}
omit [DecidableEq κ] in
theorem Zwp(kv:κ->Value)(hk:∀v ent,OwnM kv v [] ent->G c Q ks (.ops aa rest) ((d,v)::fr) (ent::l))(hd:Nat.blt d c.n=true:=by rfl)(hg:gOk aa fr g=some true:=by rfl):G c Q ks (.ops aa (⟨some d, .makeMap t none,ty,pos,af,g⟩::rest)) fr l:=
 g_op rfl hd hg λa w F M=>Zi3 M λb w' M' a' F'=>hk _ [(b, .map #[] 0)] ⟨b,_,rfl,rfl, #[],0,rfl,rfl⟩ a' w' F' M'
theorem Zta(i:Nat){t k e:TypeId}{x y z:Operand}{m:List (κ×Value)}{f:EN->Row} [ht:TU c.P t (.map k e)](K:Zhv c.P k kv ok)(hO:OwnM kv v m ent)(hi:nthO l i=some ent)(hf:∀e',setO l i e'=some (f e'))(hm:∀p∈m,ok p.1){a:κ}(ha:ok a)
  (hx:Ev fr x=some v) (hy:Ev fr y=some (kv a)) (hz:Ev fr z=some u) (hk:∀ent',OwnM kv v (putA a u m) ent'->G c Q ks (.ops aa rest) fr (f ent')):G c Q ks (.ops aa (⟨none, .mapUpdate t x y z,ty,pos,af,none⟩::rest)) fr l:=λa w F M=>by
 obtain⟨r,p1,_⟩:=ZcL hi (hf ent)
 have hp:∀e',(f e').flatten.Perm (e'++r):=λe'=>by
  obtain⟨r',q1,q2⟩:=ZcL hi (hf e')
  exact q2.trans (List.Perm.append_left _ ((List.perm_append_left_iff ent).1 (q1.symm.trans p1)))
 exact ZaW rfl F (ZeT (f:=λe'=>r++e') K (M.perm (p1.trans List.perm_append_comm)) hO (.app .here) hm ha (F.e hx) (F.e hy) (F.e hz) λent' w' hO' M' a' F'=>hk ent' hO' a' w' F' (M'.perm (List.perm_append_comm.trans (hp ent').symm)))
theorem ZhG(i:Nat){t k e:TypeId}{v z r:Value}{m:List (κ×Value)} [ht:TU c.P t (.map k e)](K:Zhv c.P k kv ok)(hz:Zeb c.P e z)(hO:OwnM kv v m ent)(hi:nthO l i=some ent)(hm:∀p∈m,ok p.1){a:κ}(ha:ok a)(hx:Ev fr x=some v)(hy:Ev fr y=some (kv a))(hv:(getA a m).getD z=r)
  (hk:FD c Q ks ol nn (kx+1) rest ((d,r)::fr) l) (hlt:flo [] [] [] nn kx (.lookup t x y false)=true:=by rfl) (hd:Nat.blt d c.n=true:=by rfl) (hg:gOk ol.toArray fr g=some true:=by rfl):FD c Q ks ol nn kx (⟨some d, .lookup t x y false,ty,pos,af,g⟩::rest) fr l:=
 fd_v (λa' w F M R rr=>Zk2 K hz (hO.at_ λp hp=>M.at_ p (ZjY hi p hp)) hm ha (F.e hx) (F.e hy) (by rw[hv];exact rr)) hk hlt hd hg
end
end
end Go.Proofs.YtfhkmgcalcfibaaGreat
