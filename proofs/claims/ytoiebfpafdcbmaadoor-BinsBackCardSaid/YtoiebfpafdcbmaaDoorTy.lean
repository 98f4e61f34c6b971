/- Facts on the types of this translation, each asked of the loaded program: printed by a program of this work (tyfacts.py). -/
import Derived.Test.YtoiebfpafdcbmaaDoorProg
import Derived.Test.YtoiebfpafdcbmaaDoorKf
namespace Go.Proofs.YtoiebfpafdcbmaaDoor
open Go Go.RowKit K
instance : AggTy Go.Proofs.Tryd.prog 117 3 := ⟨by kernel_rfl⟩
instance : AggTy Go.Proofs.Tryd.prog 121 256 := ⟨by kernel_rfl⟩
instance : AggTy Go.Proofs.Tryd.prog 25 3 := ⟨by kernel_rfl⟩
instance : AggTy Go.Proofs.Tryd.prog 69 2 := ⟨by kernel_rfl⟩
instance : AggTy Go.Proofs.Tryd.prog 72 2 := ⟨by kernel_rfl⟩
instance : AggTy Go.Proofs.Tryd.prog 75 2 := ⟨by kernel_rfl⟩
instance : AggTy Go.Proofs.Tryd.prog 77 6 := ⟨by kernel_rfl⟩
instance : AggTy Go.Proofs.Tryd.prog 82 6 := ⟨by kernel_rfl⟩
instance : CellTy Go.Proofs.Tryd.prog 22 := ⟨by kernel_rfl⟩
instance : CellTy Go.Proofs.Tryd.prog 3 := ⟨by kernel_rfl⟩
instance : CellTy Go.Proofs.Tryd.prog 31 := ⟨by kernel_rfl⟩
instance : CellTy Go.Proofs.Tryd.prog 5 := ⟨by kernel_rfl⟩
instance : CellTy Go.Proofs.Tryd.prog 73 := ⟨by kernel_rfl⟩
instance : CellTy Go.Proofs.Tryd.prog 79 := ⟨by kernel_rfl⟩
instance : CellTy Go.Proofs.Tryd.prog 9 := ⟨by kernel_rfl⟩
instance : FieldAt Go.Proofs.Tryd.prog 117 0 0 := ⟨by kernel_rfl⟩
instance : FieldAt Go.Proofs.Tryd.prog 117 1 1 := ⟨by kernel_rfl⟩
instance : FieldAt Go.Proofs.Tryd.prog 117 2 2 := ⟨by kernel_rfl⟩
instance : FieldAt Go.Proofs.Tryd.prog 25 0 0 := ⟨by kernel_rfl⟩
instance : FieldAt Go.Proofs.Tryd.prog 25 1 1 := ⟨by kernel_rfl⟩
instance : FieldAt Go.Proofs.Tryd.prog 25 2 2 := ⟨by kernel_rfl⟩
instance : FieldAt Go.Proofs.Tryd.prog 69 0 0 := ⟨by kernel_rfl⟩
instance : FieldAt Go.Proofs.Tryd.prog 69 1 1 := ⟨by kernel_rfl⟩
instance : FieldAt Go.Proofs.Tryd.prog 72 0 0 := ⟨by kernel_rfl⟩
instance : FieldAt Go.Proofs.Tryd.prog 72 1 1 := ⟨by kernel_rfl⟩
instance : FieldAt Go.Proofs.Tryd.prog 75 0 0 := ⟨by kernel_rfl⟩
instance : FieldAt Go.Proofs.Tryd.prog 75 1 1 := ⟨by kernel_rfl⟩
instance : FieldAt Go.Proofs.Tryd.prog 77 0 0 := ⟨by kernel_rfl⟩
instance : FieldAt Go.Proofs.Tryd.prog 77 1 2 := ⟨by kernel_rfl⟩
instance : FieldAt Go.Proofs.Tryd.prog 77 2 4 := ⟨by kernel_rfl⟩
instance : FieldAt Go.Proofs.Tryd.prog 77 3 5 := ⟨by kernel_rfl⟩
instance : FieldAt Go.Proofs.Tryd.prog 82 0 0 := ⟨by kernel_rfl⟩
instance : FieldAt Go.Proofs.Tryd.prog 82 1 2 := ⟨by kernel_rfl⟩
instance : FieldAt Go.Proofs.Tryd.prog 82 2 4 := ⟨by kernel_rfl⟩
instance : FieldAt Go.Proofs.Tryd.prog 82 3 5 := ⟨by kernel_rfl⟩
instance : IntTy Go.Proofs.Tryd.prog 118 .u64 := ⟨by kernel_rfl⟩
instance : IntTy Go.Proofs.Tryd.prog 149 .u32 := ⟨by kernel_rfl⟩
instance : IntTy Go.Proofs.Tryd.prog 3 .i64 := ⟨by kernel_rfl⟩
instance : IntTy Go.Proofs.Tryd.prog 5 .u8 := ⟨by kernel_rfl⟩
instance : IntTy Go.Proofs.Tryd.prog 83 .u64 := ⟨by kernel_rfl⟩
instance : PtrTy Go.Proofs.Tryd.prog 134 69 := ⟨by kernel_rfl⟩
instance : PtrTy Go.Proofs.Tryd.prog 26 77 := ⟨by kernel_rfl⟩
instance : PtrTy Go.Proofs.Tryd.prog 29 82 := ⟨by kernel_rfl⟩
instance : PtrTy Go.Proofs.Tryd.prog 73 75 := ⟨by kernel_rfl⟩
instance : PtrTy Go.Proofs.Tryd.prog 79 117 := ⟨by kernel_rfl⟩
instance : SliceTy Go.Proofs.Tryd.prog 22 3 1 8 := ⟨by kernel_rfl⟩
instance : SliceTy Go.Proofs.Tryd.prog 31 5 1 1 := ⟨by kernel_rfl⟩
instance : StrTy Go.Proofs.Tryd.prog 9 := ⟨by kernel_rfl⟩
instance : StructTy Go.Proofs.Tryd.prog 117 [(0, 1), (1, 1), (2, 1)] := ⟨by kernel_rfl⟩
instance : StructTy Go.Proofs.Tryd.prog 25 [(0, 1), (1, 1), (2, 1)] := ⟨by kernel_rfl⟩
instance : StructTy Go.Proofs.Tryd.prog 69 [(0, 1), (1, 1)] := ⟨by kernel_rfl⟩
instance : StructTy Go.Proofs.Tryd.prog 72 [(0, 1), (1, 1)] := ⟨by kernel_rfl⟩
instance : StructTy Go.Proofs.Tryd.prog 75 [(0, 1), (1, 1)] := ⟨by kernel_rfl⟩
instance : StructTy Go.Proofs.Tryd.prog 77 [(0, 2), (2, 2), (4, 1), (5, 1)] := ⟨by kernel_rfl⟩
instance : StructTy Go.Proofs.Tryd.prog 82 [(0, 2), (2, 2), (4, 1), (5, 1)] := ⟨by kernel_rfl⟩
instance : ZeroTy Go.Proofs.Tryd.prog 117 (.agg #[.slice none 0 0, .int .i64 0, .int .i64 0]) := ⟨by kernel_rfl⟩
instance : ZeroTy Go.Proofs.Tryd.prog 121 (.agg #[.bool false, .bool false, .bool false, .bool false, .bool false, .bool false, .bool false, .bool false, .bool false, .bool false, .bool false, .bool false, .bool false, .bool false, .bool false, .bool false, .bool false, .bool false, .bool false, .bool false, .bool false, .bool false, .bool false, .bool false, .bool false, .bool false, .bool false, .bool false, .bool false, .bool false, .bool false, .bool false, .bool false, .bool false, .bool false, .bool false, .bool false, .bool false, .bool false, .bool false, .bool false, .bool false, .bool false, .bool false, .bool false, .bool false, .bool false, .bool false, .bool false, .bool false, .bool false, .bool false, .bool false, .bool false, .bool false, .bool false, .bool false, .bool false, .bool false, .bool false, .bool false, .bool false, .bool false, .bool false, .bool false, .bool false, .bool false, .bool false, .bool false, .bool false, .bool false, .bool false, .bool false, .bool false, .bool false, .bool false, .bool false, .bool false, .bool false, .bool false, .bool false, .bool false, .bool false, .bool false, .bool false, .bool false, .bool false, .bool false, .bool false, .bool false, .bool false, .bool false, .bool false, .bool false, .bool false, .bool false, .bool false, .bool false, .bool false, .bool false, .bool false, .bool false, .bool false, .bool false, .bool false, .bool false, .bool false, .bool false, .bool false, .bool false, .bool false, .bool false, .bool false, .bool false, .bool false, .bool false, .bool false, .bool false, .bool false, .bool false, .bool false, .bool false, .bool false, .bool false, .bool false, .bool false, .bool false, .bool false, .bool false, .bool false, .bool false, .bool false, .bool false, .bool false, .bool false, .bool false, .bool false, .bool false, .bool false, .bool false, .bool false, .bool false, .bool false, .bool false, .bool false, .bool false, .bool false, .bool false, .bool false, .bool false, .bool false, .bool false, .bool false, .bool false, .bool false, .bool false, .bool false, .bool false, .bool false, .bool false, .bool false, .bool false, .bool false, .bool false, .bool false, .bool false, .bool false, .bool false, .bool false, .bool false, .bool false, .bool false, .bool false, .bool false, .bool false, .bool false, .bool false, .bool false, .bool false, .bool false, .bool false, .bool false, .bool false, .bool false, .bool false, .bool false, .bool false, .bool false, .bool false, .bool false, .bool false, .bool false, .bool false, .bool false, .bool false, .bool false, .bool false, .bool false, .bool false, .bool false, .bool false, .bool false, .bool false, .bool false, .bool false, .bool false, .bool false, .bool false, .bool false, .bool false, .bool false, .bool false, .bool false, .bool false, .bool false, .bool false, .bool false, .bool false, .bool false, .bool false, .bool false, .bool false, .bool false, .bool false, .bool false, .bool false, .bool false, .bool false, .bool false, .bool false, .bool false, .bool false, .bool false, .bool false, .bool false, .bool false, .bool false, .bool false, .bool false, .bool false, .bool false, .bool false, .bool false, .bool false, .bool false, .bool false, .bool false, .bool false, .bool false, .bool false, .bool false, .bool false, .bool false, .bool false, .bool false, .bool false]) := ⟨by kernel_rfl⟩
instance : ZeroTy Go.Proofs.Tryd.prog 25 (.agg #[.slice none 0 0, .int .i64 0, .int .i64 0]) := ⟨by kernel_rfl⟩
instance : ZeroTy Go.Proofs.Tryd.prog 3 (.int .i64 0) := ⟨by kernel_rfl⟩
instance : ZeroTy Go.Proofs.Tryd.prog 5 (.int .u8 0) := ⟨by kernel_rfl⟩
instance : ZeroTy Go.Proofs.Tryd.prog 69 (.agg #[.slice none 0 0, .int .i64 0]) := ⟨by kernel_rfl⟩
instance : ZeroTy Go.Proofs.Tryd.prog 72 (.agg #[.int .i64 0, .int .i64 0]) := ⟨by kernel_rfl⟩
instance : ZeroTy Go.Proofs.Tryd.prog 75 (.agg #[.slice none 0 0, .int .i64 0]) := ⟨by kernel_rfl⟩
instance : ZeroTy Go.Proofs.Tryd.prog 77 (.agg #[.slice none 0 0, .int .i64 0, .int .i64 0, .int .i64 0, .int .i64 0, .pointer none]) := ⟨by kernel_rfl⟩
instance : ZeroTy Go.Proofs.Tryd.prog 82 (.agg #[.slice none 0 0, .int .i64 0, .int .i64 0, .int .i64 0, .int .i64 0, .pointer none]) := ⟨by kernel_rfl⟩
theorem mixed : Go.Proofs.Tryd.prog.follows .mixedOrders = true := by kernel_rfl
end Go.Proofs.YtoiebfpafdcbmaaDoor
