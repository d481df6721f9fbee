/- Of each type: its zero, its cells, its bytes. (Written by gent.py.) -/
import Derived.Test.YtkbfngepdgdecaaV13
import Derived.Test.YtkbfngepdgdecaaProg
namespace Go.Proofs.Ytkbfngepdgdecaa
open Go Go.V
set_option maxRecDepth 100000 in
theorem info0 : tInfo Try.prog 0 = some ((some (Value.tuple #[])), 1, 0) := by kernel_rfl
set_option maxRecDepth 100000 in
theorem info1 : tInfo Try.prog 1 = some ((some Value.nilFunc), 1, 8) := by kernel_rfl
set_option maxRecDepth 100000 in
theorem info2 : tInfo Try.prog 2 = some ((some (Value.int IntKind.i64 0)), 1, 8) := by kernel_rfl
set_option maxRecDepth 100000 in
theorem info3 : tInfo Try.prog 3 = some ((some (Value.int IntKind.i64 0)), 1, 8) := by kernel_rfl
set_option maxRecDepth 100000 in
theorem info4 : tInfo Try.prog 4 = some ((some (Value.bool false)), 1, 1) := by kernel_rfl
set_option maxRecDepth 100000 in
theorem info5 : tInfo Try.prog 5 = some ((some (Value.int IntKind.u8 0)), 1, 1) := by kernel_rfl
set_option maxRecDepth 100000 in
theorem info6 : tInfo Try.prog 6 = some ((some (Value.int IntKind.u8 0)), 1, 1) := by kernel_rfl
set_option maxRecDepth 100000 in
theorem info7 : tInfo Try.prog 7 = some ((some (Value.agg #[(Value.int IntKind.i64 0), (Value.int IntKind.i64 0), (Value.bool false), (Value.int IntKind.u8 0)])), 4, 24) := by kernel_rfl
set_option maxRecDepth 100000 in
theorem info8 : tInfo Try.prog 8 = some ((some (Value.agg #[(Value.int IntKind.i64 0), (Value.int IntKind.i64 0), (Value.bool false), (Value.int IntKind.u8 0)])), 4, 24) := by kernel_rfl
set_option maxRecDepth 100000 in
theorem info9 : tInfo Try.prog 9 = some ((some (Value.string { data := #[] })), 1, 16) := by kernel_rfl
set_option maxRecDepth 100000 in
theorem info10 : tInfo Try.prog 10 = some ((some (Value.string { data := #[] })), 1, 16) := by kernel_rfl
set_option maxRecDepth 100000 in
theorem info11 : tInfo Try.prog 11 = some ((some (Value.string { data := #[] })), 1, 16) := by kernel_rfl
set_option maxRecDepth 100000 in
theorem info12 : tInfo Try.prog 12 = some ((some (Value.int IntKind.u64 0)), 1, 8) := by kernel_rfl
set_option maxRecDepth 100000 in
theorem info13 : tInfo Try.prog 13 = some ((some (Value.agg #[(Value.string { data := #[] }), (Value.int IntKind.u64 0)])), 2, 24) := by kernel_rfl
set_option maxRecDepth 100000 in
theorem info14 : tInfo Try.prog 14 = some ((some (Value.agg #[(Value.string { data := #[] }), (Value.int IntKind.u64 0)])), 2, 24) := by kernel_rfl
set_option maxRecDepth 100000 in
theorem info15 : tInfo Try.prog 15 = some ((some (Value.pointer none)), 1, 8) := by kernel_rfl
set_option maxRecDepth 100000 in
theorem info16 : tInfo Try.prog 16 = some ((some (Value.pointer none)), 1, 8) := by kernel_rfl
set_option maxRecDepth 100000 in
theorem info17 : tInfo Try.prog 17 = some ((some (Value.pointer none)), 1, 8) := by kernel_rfl
set_option maxRecDepth 100000 in
theorem info18 : tInfo Try.prog 18 = some ((some (Value.agg #[(Value.pointer none)])), 1, 8) := by kernel_rfl
set_option maxRecDepth 100000 in
theorem info19 : tInfo Try.prog 19 = some ((some (Value.agg #[(Value.pointer none)])), 1, 8) := by kernel_rfl
set_option maxRecDepth 100000 in
theorem info20 : tInfo Try.prog 20 = some ((some Value.nilIface), 1, 16) := by kernel_rfl
set_option maxRecDepth 100000 in
theorem info21 : tInfo Try.prog 21 = some ((some (Value.int IntKind.i32 0)), 1, 4) := by kernel_rfl
set_option maxRecDepth 100000 in
theorem info22 : tInfo Try.prog 22 = some ((some (Value.slice none 0 0)), 1, 24) := by kernel_rfl
set_option maxRecDepth 100000 in
theorem info23 : tInfo Try.prog 23 = some ((some (Value.agg #[(Value.int IntKind.u8 0), (Value.int IntKind.u8 0), (Value.int IntKind.u8 0), (Value.int IntKind.u8 0), (Value.int IntKind.u8 0), (Value.int IntKind.u8 0), (Value.int IntKind.u8 0), (Value.int IntKind.u8 0), (Value.int IntKind.u8 0), (Value.int IntKind.u8 0), (Value.int IntKind.u8 0), (Value.int IntKind.u8 0), (Value.int IntKind.u8 0), (Value.int IntKind.u8 0), (Value.int IntKind.u8 0), (Value.int IntKind.u8 0), (Value.int IntKind.u8 0), (Value.int IntKind.u8 0), (Value.int IntKind.u8 0), (Value.int IntKind.u8 0), (Value.int IntKind.u8 0), (Value.int IntKind.u8 0), (Value.int IntKind.u8 0), (Value.int IntKind.u8 0), (Value.int IntKind.u8 0), (Value.int IntKind.u8 0), (Value.int IntKind.u8 0), (Value.int IntKind.u8 0), (Value.int IntKind.u8 0), (Value.int IntKind.u8 0), (Value.int IntKind.u8 0), (Value.int IntKind.u8 0)])), 32, 32) := by kernel_rfl
set_option maxRecDepth 100000 in
theorem info24 : tInfo Try.prog 24 = some ((some (Value.agg #[(Value.int IntKind.u8 0), (Value.int IntKind.u8 0), (Value.int IntKind.u8 0), (Value.int IntKind.u8 0), (Value.int IntKind.u8 0), (Value.int IntKind.u8 0), (Value.int IntKind.u8 0), (Value.int IntKind.u8 0), (Value.int IntKind.u8 0), (Value.int IntKind.u8 0), (Value.int IntKind.u8 0), (Value.int IntKind.u8 0), (Value.int IntKind.u8 0), (Value.int IntKind.u8 0), (Value.int IntKind.u8 0), (Value.int IntKind.u8 0), (Value.int IntKind.u8 0), (Value.int IntKind.u8 0), (Value.int IntKind.u8 0), (Value.int IntKind.u8 0), (Value.int IntKind.u8 0), (Value.int IntKind.u8 0), (Value.int IntKind.u8 0), (Value.int IntKind.u8 0), (Value.int IntKind.u8 0), (Value.int IntKind.u8 0), (Value.int IntKind.u8 0), (Value.int IntKind.u8 0), (Value.int IntKind.u8 0), (Value.int IntKind.u8 0), (Value.int IntKind.u8 0), (Value.int IntKind.u8 0)])), 32, 32) := by kernel_rfl
set_option maxRecDepth 100000 in
theorem info25 : tInfo Try.prog 25 = some ((some (Value.agg (List.toArray ([(Value.int IntKind.i64 0), (Value.int IntKind.u8 0), (Value.int IntKind.u8 0), (Value.int IntKind.u8 0), (Value.int IntKind.u8 0), (Value.int IntKind.u8 0), (Value.int IntKind.u8 0), (Value.int IntKind.u8 0), (Value.int IntKind.u8 0), (Value.int IntKind.u8 0), (Value.int IntKind.u8 0), (Value.int IntKind.u8 0), (Value.int IntKind.u8 0), (Value.int IntKind.u8 0), (Value.int IntKind.u8 0), (Value.int IntKind.u8 0), (Value.int IntKind.u8 0), (Value.int IntKind.u8 0), (Value.int IntKind.u8 0), (Value.int IntKind.u8 0), (Value.int IntKind.u8 0), (Value.int IntKind.u8 0), (Value.int IntKind.u8 0), (Value.int IntKind.u8 0), (Value.int IntKind.u8 0), (Value.int IntKind.u8 0), (Value.int IntKind.u8 0), (Value.int IntKind.u8 0), (Value.int IntKind.u8 0), (Value.int IntKind.u8 0), (Value.int IntKind.u8 0), (Value.int IntKind.u8 0), (Value.int IntKind.u8 0), (Value.int IntKind.u8 0), (Value.int IntKind.u8 0), (Value.int IntKind.u8 0), (Value.int IntKind.u8 0), (Value.int IntKind.u8 0), (Value.int IntKind.u8 0), (Value.int IntKind.u8 0), (Value.int IntKind.u8 0), (Value.int IntKind.u8 0), (Value.int IntKind.u8 0), (Value.int IntKind.u8 0), (Value.int IntKind.u8 0), (Value.int IntKind.u8 0), (Value.int IntKind.u8 0), (Value.int IntKind.u8 0), (Value.int IntKind.u8 0), (Value.int IntKind.u8 0), (Value.int IntKind.u8 0), (Value.int IntKind.u8 0), (Value.int IntKind.u8 0), (Value.int IntKind.u8 0), (Value.int IntKind.u8 0), (Value.int IntKind.u8 0), (Value.int IntKind.u8 0), (Value.int IntKind.u8 0), (Value.int IntKind.u8 0), (Value.int IntKind.u8 0), (Value.int IntKind.u8 0), (Value.int IntKind.u8 0), (Value.int IntKind.u8 0), (Value.int IntKind.u8 0)] ++ ([(Value.int IntKind.u8 0), (Value.int IntKind.u8 0), (Value.int IntKind.u8 0), (Value.int IntKind.u8 0), (Value.int IntKind.u8 0), (Value.int IntKind.u8 0), (Value.int IntKind.u8 0), (Value.int IntKind.u8 0), (Value.int IntKind.u8 0), (Value.int IntKind.u8 0), (Value.int IntKind.u8 0), (Value.int IntKind.u8 0), (Value.int IntKind.u8 0), (Value.int IntKind.u8 0), (Value.int IntKind.u8 0), (Value.int IntKind.u8 0), (Value.int IntKind.u8 0), (Value.int IntKind.u8 0), (Value.int IntKind.u8 0), (Value.int IntKind.u8 0), (Value.int IntKind.u8 0), (Value.int IntKind.u8 0), (Value.int IntKind.u8 0), (Value.int IntKind.u8 0), (Value.int IntKind.u8 0), (Value.int IntKind.u8 0), (Value.int IntKind.u8 0), (Value.int IntKind.u8 0), (Value.int IntKind.u8 0), (Value.int IntKind.u8 0), (Value.int IntKind.u8 0), (Value.int IntKind.u8 0)] ++ [(Value.int IntKind.u8 0), (Value.int IntKind.u8 0), (Value.int IntKind.u8 0), (Value.int IntKind.u8 0), (Value.int IntKind.u8 0), (Value.int IntKind.u8 0), (Value.int IntKind.u8 0), (Value.int IntKind.u8 0), (Value.int IntKind.u8 0), (Value.int IntKind.u8 0), (Value.int IntKind.u8 0), (Value.int IntKind.u8 0), (Value.int IntKind.u8 0), (Value.int IntKind.u8 0), (Value.int IntKind.u8 0), (Value.int IntKind.u8 0), (Value.int IntKind.u8 0), (Value.int IntKind.u8 0), (Value.int IntKind.u8 0), (Value.int IntKind.u8 0), (Value.int IntKind.u8 0), (Value.int IntKind.u8 0), (Value.int IntKind.u8 0), (Value.int IntKind.u8 0), (Value.int IntKind.u8 0), (Value.int IntKind.u8 0), (Value.int IntKind.u8 0), (Value.int IntKind.u8 0), (Value.int IntKind.u8 0), (Value.int IntKind.u8 0), (Value.int IntKind.u8 0), (Value.int IntKind.u8 0), (Value.int IntKind.u8 0)]))))), 129, 136) := by kernel_rfl
set_option maxRecDepth 100000 in
theorem info26 : tInfo Try.prog 26 = some ((some (Value.agg (List.toArray ([(Value.int IntKind.i64 0), (Value.int IntKind.u8 0), (Value.int IntKind.u8 0), (Value.int IntKind.u8 0), (Value.int IntKind.u8 0), (Value.int IntKind.u8 0), (Value.int IntKind.u8 0), (Value.int IntKind.u8 0), (Value.int IntKind.u8 0), (Value.int IntKind.u8 0), (Value.int IntKind.u8 0), (Value.int IntKind.u8 0), (Value.int IntKind.u8 0), (Value.int IntKind.u8 0), (Value.int IntKind.u8 0), (Value.int IntKind.u8 0), (Value.int IntKind.u8 0), (Value.int IntKind.u8 0), (Value.int IntKind.u8 0), (Value.int IntKind.u8 0), (Value.int IntKind.u8 0), (Value.int IntKind.u8 0), (Value.int IntKind.u8 0), (Value.int IntKind.u8 0), (Value.int IntKind.u8 0), (Value.int IntKind.u8 0), (Value.int IntKind.u8 0), (Value.int IntKind.u8 0), (Value.int IntKind.u8 0), (Value.int IntKind.u8 0), (Value.int IntKind.u8 0), (Value.int IntKind.u8 0), (Value.int IntKind.u8 0), (Value.int IntKind.u8 0), (Value.int IntKind.u8 0), (Value.int IntKind.u8 0), (Value.int IntKind.u8 0), (Value.int IntKind.u8 0), (Value.int IntKind.u8 0), (Value.int IntKind.u8 0), (Value.int IntKind.u8 0), (Value.int IntKind.u8 0), (Value.int IntKind.u8 0), (Value.int IntKind.u8 0), (Value.int IntKind.u8 0), (Value.int IntKind.u8 0), (Value.int IntKind.u8 0), (Value.int IntKind.u8 0), (Value.int IntKind.u8 0), (Value.int IntKind.u8 0), (Value.int IntKind.u8 0), (Value.int IntKind.u8 0), (Value.int IntKind.u8 0), (Value.int IntKind.u8 0), (Value.int IntKind.u8 0), (Value.int IntKind.u8 0), (Value.int IntKind.u8 0), (Value.int IntKind.u8 0), (Value.int IntKind.u8 0), (Value.int IntKind.u8 0), (Value.int IntKind.u8 0), (Value.int IntKind.u8 0), (Value.int IntKind.u8 0), (Value.int IntKind.u8 0)] ++ ([(Value.int IntKind.u8 0), (Value.int IntKind.u8 0), (Value.int IntKind.u8 0), (Value.int IntKind.u8 0), (Value.int IntKind.u8 0), (Value.int IntKind.u8 0), (Value.int IntKind.u8 0), (Value.int IntKind.u8 0), (Value.int IntKind.u8 0), (Value.int IntKind.u8 0), (Value.int IntKind.u8 0), (Value.int IntKind.u8 0), (Value.int IntKind.u8 0), (Value.int IntKind.u8 0), (Value.int IntKind.u8 0), (Value.int IntKind.u8 0), (Value.int IntKind.u8 0), (Value.int IntKind.u8 0), (Value.int IntKind.u8 0), (Value.int IntKind.u8 0), (Value.int IntKind.u8 0), (Value.int IntKind.u8 0), (Value.int IntKind.u8 0), (Value.int IntKind.u8 0), (Value.int IntKind.u8 0), (Value.int IntKind.u8 0), (Value.int IntKind.u8 0), (Value.int IntKind.u8 0), (Value.int IntKind.u8 0), (Value.int IntKind.u8 0), (Value.int IntKind.u8 0), (Value.int IntKind.u8 0)] ++ [(Value.int IntKind.u8 0), (Value.int IntKind.u8 0), (Value.int IntKind.u8 0), (Value.int IntKind.u8 0), (Value.int IntKind.u8 0), (Value.int IntKind.u8 0), (Value.int IntKind.u8 0), (Value.int IntKind.u8 0), (Value.int IntKind.u8 0), (Value.int IntKind.u8 0), (Value.int IntKind.u8 0), (Value.int IntKind.u8 0), (Value.int IntKind.u8 0), (Value.int IntKind.u8 0), (Value.int IntKind.u8 0), (Value.int IntKind.u8 0), (Value.int IntKind.u8 0), (Value.int IntKind.u8 0), (Value.int IntKind.u8 0), (Value.int IntKind.u8 0), (Value.int IntKind.u8 0), (Value.int IntKind.u8 0), (Value.int IntKind.u8 0), (Value.int IntKind.u8 0), (Value.int IntKind.u8 0), (Value.int IntKind.u8 0), (Value.int IntKind.u8 0), (Value.int IntKind.u8 0), (Value.int IntKind.u8 0), (Value.int IntKind.u8 0), (Value.int IntKind.u8 0), (Value.int IntKind.u8 0), (Value.int IntKind.u8 0)]))))), 129, 136) := by kernel_rfl
set_option maxRecDepth 100000 in
theorem info27 : tInfo Try.prog 27 = some ((some (Value.agg (List.toArray (([(Value.int IntKind.i64 0), (Value.int IntKind.u8 0), (Value.int IntKind.u8 0), (Value.int IntKind.u8 0), (Value.int IntKind.u8 0), (Value.int IntKind.u8 0), (Value.int IntKind.u8 0), (Value.int IntKind.u8 0), (Value.int IntKind.u8 0), (Value.int IntKind.u8 0), (Value.int IntKind.u8 0), (Value.int IntKind.u8 0), (Value.int IntKind.u8 0), (Value.int IntKind.u8 0), (Value.int IntKind.u8 0), (Value.int IntKind.u8 0), (Value.int IntKind.u8 0), (Value.int IntKind.u8 0), (Value.int IntKind.u8 0), (Value.int IntKind.u8 0), (Value.int IntKind.u8 0), (Value.int IntKind.u8 0), (Value.int IntKind.u8 0), (Value.int IntKind.u8 0), (Value.int IntKind.u8 0), (Value.int IntKind.u8 0), (Value.int IntKind.u8 0), (Value.int IntKind.u8 0), (Value.int IntKind.u8 0), (Value.int IntKind.u8 0), (Value.int IntKind.u8 0), (Value.int IntKind.u8 0)] ++ [(Value.int IntKind.u8 0), (Value.int IntKind.u8 0), (Value.int IntKind.u8 0), (Value.int IntKind.u8 0), (Value.int IntKind.u8 0), (Value.int IntKind.u8 0), (Value.int IntKind.u8 0), (Value.int IntKind.u8 0), (Value.int IntKind.u8 0), (Value.int IntKind.u8 0), (Value.int IntKind.u8 0), (Value.int IntKind.u8 0), (Value.int IntKind.u8 0), (Value.int IntKind.u8 0), (Value.int IntKind.u8 0), (Value.int IntKind.u8 0), (Value.int IntKind.u8 0), (Value.int IntKind.u8 0), (Value.int IntKind.u8 0), (Value.int IntKind.u8 0), (Value.int IntKind.u8 0), (Value.int IntKind.u8 0), (Value.int IntKind.u8 0), (Value.int IntKind.u8 0), (Value.int IntKind.u8 0), (Value.int IntKind.u8 0), (Value.int IntKind.u8 0), (Value.int IntKind.u8 0), (Value.int IntKind.u8 0), (Value.int IntKind.u8 0), (Value.int IntKind.u8 0), (Value.int IntKind.u8 0), (Value.int IntKind.u8 0)]) ++ ([(Value.int IntKind.u8 0), (Value.int IntKind.u8 0), (Value.int IntKind.u8 0), (Value.int IntKind.u8 0), (Value.int IntKind.u8 0), (Value.int IntKind.u8 0), (Value.int IntKind.u8 0), (Value.int IntKind.u8 0), (Value.int IntKind.u8 0), (Value.int IntKind.u8 0), (Value.int IntKind.u8 0), (Value.int IntKind.u8 0), (Value.int IntKind.u8 0), (Value.int IntKind.u8 0), (Value.int IntKind.u8 0), (Value.int IntKind.u8 0), (Value.int IntKind.u8 0), (Value.int IntKind.u8 0), (Value.int IntKind.u8 0), (Value.int IntKind.u8 0), (Value.int IntKind.u8 0), (Value.int IntKind.u8 0), (Value.int IntKind.u8 0), (Value.int IntKind.u8 0), (Value.int IntKind.u8 0), (Value.int IntKind.u8 0), (Value.int IntKind.u8 0), (Value.int IntKind.u8 0), (Value.int IntKind.u8 0), (Value.int IntKind.u8 0), (Value.int IntKind.u8 0), (Value.int IntKind.u8 0)] ++ [(Value.int IntKind.u8 0), (Value.int IntKind.u8 0), (Value.int IntKind.u8 0), (Value.int IntKind.u8 0), (Value.int IntKind.u8 0), (Value.int IntKind.u8 0), (Value.int IntKind.u8 0), (Value.int IntKind.u8 0), (Value.int IntKind.u8 0), (Value.int IntKind.u8 0), (Value.int IntKind.u8 0), (Value.int IntKind.u8 0), (Value.int IntKind.u8 0), (Value.int IntKind.u8 0), (Value.int IntKind.u8 0), (Value.int IntKind.u8 0), (Value.int IntKind.u8 0), (Value.int IntKind.u8 0), (Value.int IntKind.u8 0), (Value.int IntKind.u8 0), (Value.int IntKind.u8 0), (Value.int IntKind.u8 0), (Value.int IntKind.u8 0), (Value.int IntKind.u8 0), (Value.int IntKind.u8 0), (Value.int IntKind.u8 0), (Value.int IntKind.u8 0), (Value.int IntKind.u8 0), (Value.int IntKind.u8 0), (Value.int IntKind.u8 0), (Value.int IntKind.u8 0), (Value.int IntKind.u8 0), (Value.int IntKind.i64 0)]))))), 130, 144) := by kernel_rfl
set_option maxRecDepth 100000 in
theorem info28 : tInfo Try.prog 28 = some ((some (Value.agg (List.toArray (([(Value.int IntKind.i64 0), (Value.int IntKind.u8 0), (Value.int IntKind.u8 0), (Value.int IntKind.u8 0), (Value.int IntKind.u8 0), (Value.int IntKind.u8 0), (Value.int IntKind.u8 0), (Value.int IntKind.u8 0), (Value.int IntKind.u8 0), (Value.int IntKind.u8 0), (Value.int IntKind.u8 0), (Value.int IntKind.u8 0), (Value.int IntKind.u8 0), (Value.int IntKind.u8 0), (Value.int IntKind.u8 0), (Value.int IntKind.u8 0), (Value.int IntKind.u8 0), (Value.int IntKind.u8 0), (Value.int IntKind.u8 0), (Value.int IntKind.u8 0), (Value.int IntKind.u8 0), (Value.int IntKind.u8 0), (Value.int IntKind.u8 0), (Value.int IntKind.u8 0), (Value.int IntKind.u8 0), (Value.int IntKind.u8 0), (Value.int IntKind.u8 0), (Value.int IntKind.u8 0), (Value.int IntKind.u8 0), (Value.int IntKind.u8 0), (Value.int IntKind.u8 0), (Value.int IntKind.u8 0)] ++ [(Value.int IntKind.u8 0), (Value.int IntKind.u8 0), (Value.int IntKind.u8 0), (Value.int IntKind.u8 0), (Value.int IntKind.u8 0), (Value.int IntKind.u8 0), (Value.int IntKind.u8 0), (Value.int IntKind.u8 0), (Value.int IntKind.u8 0), (Value.int IntKind.u8 0), (Value.int IntKind.u8 0), (Value.int IntKind.u8 0), (Value.int IntKind.u8 0), (Value.int IntKind.u8 0), (Value.int IntKind.u8 0), (Value.int IntKind.u8 0), (Value.int IntKind.u8 0), (Value.int IntKind.u8 0), (Value.int IntKind.u8 0), (Value.int IntKind.u8 0), (Value.int IntKind.u8 0), (Value.int IntKind.u8 0), (Value.int IntKind.u8 0), (Value.int IntKind.u8 0), (Value.int IntKind.u8 0), (Value.int IntKind.u8 0), (Value.int IntKind.u8 0), (Value.int IntKind.u8 0), (Value.int IntKind.u8 0), (Value.int IntKind.u8 0), (Value.int IntKind.u8 0), (Value.int IntKind.u8 0), (Value.int IntKind.u8 0)]) ++ ([(Value.int IntKind.u8 0), (Value.int IntKind.u8 0), (Value.int IntKind.u8 0), (Value.int IntKind.u8 0), (Value.int IntKind.u8 0), (Value.int IntKind.u8 0), (Value.int IntKind.u8 0), (Value.int IntKind.u8 0), (Value.int IntKind.u8 0), (Value.int IntKind.u8 0), (Value.int IntKind.u8 0), (Value.int IntKind.u8 0), (Value.int IntKind.u8 0), (Value.int IntKind.u8 0), (Value.int IntKind.u8 0), (Value.int IntKind.u8 0), (Value.int IntKind.u8 0), (Value.int IntKind.u8 0), (Value.int IntKind.u8 0), (Value.int IntKind.u8 0), (Value.int IntKind.u8 0), (Value.int IntKind.u8 0), (Value.int IntKind.u8 0), (Value.int IntKind.u8 0), (Value.int IntKind.u8 0), (Value.int IntKind.u8 0), (Value.int IntKind.u8 0), (Value.int IntKind.u8 0), (Value.int IntKind.u8 0), (Value.int IntKind.u8 0), (Value.int IntKind.u8 0), (Value.int IntKind.u8 0)] ++ [(Value.int IntKind.u8 0), (Value.int IntKind.u8 0), (Value.int IntKind.u8 0), (Value.int IntKind.u8 0), (Value.int IntKind.u8 0), (Value.int IntKind.u8 0), (Value.int IntKind.u8 0), (Value.int IntKind.u8 0), (Value.int IntKind.u8 0), (Value.int IntKind.u8 0), (Value.int IntKind.u8 0), (Value.int IntKind.u8 0), (Value.int IntKind.u8 0), (Value.int IntKind.u8 0), (Value.int IntKind.u8 0), (Value.int IntKind.u8 0), (Value.int IntKind.u8 0), (Value.int IntKind.u8 0), (Value.int IntKind.u8 0), (Value.int IntKind.u8 0), (Value.int IntKind.u8 0), (Value.int IntKind.u8 0), (Value.int IntKind.u8 0), (Value.int IntKind.u8 0), (Value.int IntKind.u8 0), (Value.int IntKind.u8 0), (Value.int IntKind.u8 0), (Value.int IntKind.u8 0), (Value.int IntKind.u8 0), (Value.int IntKind.u8 0), (Value.int IntKind.u8 0), (Value.int IntKind.u8 0), (Value.int IntKind.i64 0)]))))), 130, 144) := by kernel_rfl
set_option maxRecDepth 100000 in
theorem info29 : tInfo Try.prog 29 = some ((some Value.nilFunc), 1, 8) := by kernel_rfl
set_option maxRecDepth 100000 in
theorem info30 : tInfo Try.prog 30 = some ((some (Value.pointer none)), 1, 8) := by kernel_rfl
set_option maxRecDepth 100000 in
theorem info31 : tInfo Try.prog 31 = some ((some (Value.pointer none)), 1, 8) := by kernel_rfl
set_option maxRecDepth 100000 in
theorem info32 : tInfo Try.prog 32 = some ((some (Value.tuple #[(Value.pointer none), (Value.pointer none)])), 1, 0) := by kernel_rfl
set_option maxRecDepth 100000 in
theorem info33 : tInfo Try.prog 33 = some ((some Value.nilFunc), 1, 8) := by kernel_rfl
set_option maxRecDepth 100000 in
theorem info34 : tInfo Try.prog 34 = some ((some (Value.slice none 0 0)), 1, 24) := by kernel_rfl
set_option maxRecDepth 100000 in
theorem info35 : tInfo Try.prog 35 = some ((some (Value.int IntKind.i64 0)), 1, 8) := by kernel_rfl
set_option maxRecDepth 100000 in
theorem info36 : tInfo Try.prog 36 = some ((some (Value.tuple #[(Value.slice none 0 0), (Value.int IntKind.i64 0)])), 1, 0) := by kernel_rfl
set_option maxRecDepth 100000 in
theorem info37 : tInfo Try.prog 37 = some ((some Value.nilFunc), 1, 8) := by kernel_rfl
set_option maxRecDepth 100000 in
theorem info38 : tInfo Try.prog 38 = some ((some (Value.tuple #[(Value.agg (List.toArray (([(Value.int IntKind.i64 0), (Value.int IntKind.u8 0), (Value.int IntKind.u8 0), (Value.int IntKind.u8 0), (Value.int IntKind.u8 0), (Value.int IntKind.u8 0), (Value.int IntKind.u8 0), (Value.int IntKind.u8 0), (Value.int IntKind.u8 0), (Value.int IntKind.u8 0), (Value.int IntKind.u8 0), (Value.int IntKind.u8 0), (Value.int IntKind.u8 0), (Value.int IntKind.u8 0), (Value.int IntKind.u8 0), (Value.int IntKind.u8 0), (Value.int IntKind.u8 0), (Value.int IntKind.u8 0), (Value.int IntKind.u8 0), (Value.int IntKind.u8 0), (Value.int IntKind.u8 0), (Value.int IntKind.u8 0), (Value.int IntKind.u8 0), (Value.int IntKind.u8 0), (Value.int IntKind.u8 0), (Value.int IntKind.u8 0), (Value.int IntKind.u8 0), (Value.int IntKind.u8 0), (Value.int IntKind.u8 0), (Value.int IntKind.u8 0), (Value.int IntKind.u8 0), (Value.int IntKind.u8 0)] ++ [(Value.int IntKind.u8 0), (Value.int IntKind.u8 0), (Value.int IntKind.u8 0), (Value.int IntKind.u8 0), (Value.int IntKind.u8 0), (Value.int IntKind.u8 0), (Value.int IntKind.u8 0), (Value.int IntKind.u8 0), (Value.int IntKind.u8 0), (Value.int IntKind.u8 0), (Value.int IntKind.u8 0), (Value.int IntKind.u8 0), (Value.int IntKind.u8 0), (Value.int IntKind.u8 0), (Value.int IntKind.u8 0), (Value.int IntKind.u8 0), (Value.int IntKind.u8 0), (Value.int IntKind.u8 0), (Value.int IntKind.u8 0), (Value.int IntKind.u8 0), (Value.int IntKind.u8 0), (Value.int IntKind.u8 0), (Value.int IntKind.u8 0), (Value.int IntKind.u8 0), (Value.int IntKind.u8 0), (Value.int IntKind.u8 0), (Value.int IntKind.u8 0), (Value.int IntKind.u8 0), (Value.int IntKind.u8 0), (Value.int IntKind.u8 0), (Value.int IntKind.u8 0), (Value.int IntKind.u8 0), (Value.int IntKind.u8 0)]) ++ ([(Value.int IntKind.u8 0), (Value.int IntKind.u8 0), (Value.int IntKind.u8 0), (Value.int IntKind.u8 0), (Value.int IntKind.u8 0), (Value.int IntKind.u8 0), (Value.int IntKind.u8 0), (Value.int IntKind.u8 0), (Value.int IntKind.u8 0), (Value.int IntKind.u8 0), (Value.int IntKind.u8 0), (Value.int IntKind.u8 0), (Value.int IntKind.u8 0), (Value.int IntKind.u8 0), (Value.int IntKind.u8 0), (Value.int IntKind.u8 0), (Value.int IntKind.u8 0), (Value.int IntKind.u8 0), (Value.int IntKind.u8 0), (Value.int IntKind.u8 0), (Value.int IntKind.u8 0), (Value.int IntKind.u8 0), (Value.int IntKind.u8 0), (Value.int IntKind.u8 0), (Value.int IntKind.u8 0), (Value.int IntKind.u8 0), (Value.int IntKind.u8 0), (Value.int IntKind.u8 0), (Value.int IntKind.u8 0), (Value.int IntKind.u8 0), (Value.int IntKind.u8 0), (Value.int IntKind.u8 0)] ++ [(Value.int IntKind.u8 0), (Value.int IntKind.u8 0), (Value.int IntKind.u8 0), (Value.int IntKind.u8 0), (Value.int IntKind.u8 0), (Value.int IntKind.u8 0), (Value.int IntKind.u8 0), (Value.int IntKind.u8 0), (Value.int IntKind.u8 0), (Value.int IntKind.u8 0), (Value.int IntKind.u8 0), (Value.int IntKind.u8 0), (Value.int IntKind.u8 0), (Value.int IntKind.u8 0), (Value.int IntKind.u8 0), (Value.int IntKind.u8 0), (Value.int IntKind.u8 0), (Value.int IntKind.u8 0), (Value.int IntKind.u8 0), (Value.int IntKind.u8 0), (Value.int IntKind.u8 0), (Value.int IntKind.u8 0), (Value.int IntKind.u8 0), (Value.int IntKind.u8 0), (Value.int IntKind.u8 0), (Value.int IntKind.u8 0), (Value.int IntKind.u8 0), (Value.int IntKind.u8 0), (Value.int IntKind.u8 0), (Value.int IntKind.u8 0), (Value.int IntKind.u8 0), (Value.int IntKind.u8 0), (Value.int IntKind.i64 0)])))), (Value.int IntKind.i64 0)])), 1, 0) := by kernel_rfl
set_option maxRecDepth 100000 in
theorem info39 : tInfo Try.prog 39 = some ((some Value.nilFunc), 1, 8) := by kernel_rfl
set_option maxRecDepth 100000 in
theorem info40 : tInfo Try.prog 40 = some ((some Value.nilFunc), 1, 8) := by kernel_rfl
set_option maxRecDepth 100000 in
theorem info41 : tInfo Try.prog 41 = some ((some Value.nilFunc), 1, 8) := by kernel_rfl
set_option maxRecDepth 100000 in
theorem info42 : tInfo Try.prog 42 = some ((some Value.nilFunc), 1, 8) := by kernel_rfl
set_option maxRecDepth 100000 in
theorem info43 : tInfo Try.prog 43 = some ((some Value.nilFunc), 1, 8) := by kernel_rfl
set_option maxRecDepth 100000 in
theorem info44 : tInfo Try.prog 44 = some ((some (Value.tuple #[(Value.int IntKind.i64 0), (Value.int IntKind.i64 0)])), 1, 0) := by kernel_rfl
set_option maxRecDepth 100000 in
theorem info45 : tInfo Try.prog 45 = some ((some Value.nilFunc), 1, 8) := by kernel_rfl
set_option maxRecDepth 100000 in
theorem info46 : tInfo Try.prog 46 = some ((some (Value.agg (List.toArray (([(Value.int IntKind.i64 0), (Value.int IntKind.i64 0), (Value.int IntKind.u8 0), (Value.int IntKind.u8 0), (Value.int IntKind.u8 0), (Value.int IntKind.u8 0), (Value.int IntKind.u8 0), (Value.int IntKind.u8 0), (Value.int IntKind.u8 0), (Value.int IntKind.u8 0), (Value.int IntKind.u8 0), (Value.int IntKind.u8 0), (Value.int IntKind.u8 0), (Value.int IntKind.u8 0), (Value.int IntKind.u8 0), (Value.int IntKind.u8 0), (Value.int IntKind.u8 0), (Value.int IntKind.u8 0), (Value.int IntKind.u8 0), (Value.int IntKind.u8 0), (Value.int IntKind.u8 0), (Value.int IntKind.u8 0), (Value.int IntKind.u8 0), (Value.int IntKind.u8 0), (Value.int IntKind.u8 0), (Value.int IntKind.u8 0), (Value.int IntKind.u8 0), (Value.int IntKind.u8 0), (Value.int IntKind.u8 0), (Value.int IntKind.u8 0), (Value.int IntKind.u8 0), (Value.int IntKind.u8 0)] ++ [(Value.int IntKind.u8 0), (Value.int IntKind.u8 0), (Value.int IntKind.u8 0), (Value.int IntKind.u8 0), (Value.int IntKind.u8 0), (Value.int IntKind.u8 0), (Value.int IntKind.u8 0), (Value.int IntKind.u8 0), (Value.int IntKind.u8 0), (Value.int IntKind.u8 0), (Value.int IntKind.u8 0), (Value.int IntKind.u8 0), (Value.int IntKind.u8 0), (Value.int IntKind.u8 0), (Value.int IntKind.u8 0), (Value.int IntKind.u8 0), (Value.int IntKind.u8 0), (Value.int IntKind.u8 0), (Value.int IntKind.u8 0), (Value.int IntKind.u8 0), (Value.int IntKind.u8 0), (Value.int IntKind.u8 0), (Value.int IntKind.u8 0), (Value.int IntKind.u8 0), (Value.int IntKind.u8 0), (Value.int IntKind.u8 0), (Value.int IntKind.u8 0), (Value.int IntKind.u8 0), (Value.int IntKind.u8 0), (Value.int IntKind.u8 0), (Value.int IntKind.u8 0), (Value.int IntKind.u8 0), (Value.int IntKind.u8 0)]) ++ ([(Value.int IntKind.u8 0), (Value.int IntKind.u8 0), (Value.int IntKind.u8 0), (Value.int IntKind.u8 0), (Value.int IntKind.u8 0), (Value.int IntKind.u8 0), (Value.int IntKind.u8 0), (Value.int IntKind.u8 0), (Value.int IntKind.u8 0), (Value.int IntKind.u8 0), (Value.int IntKind.u8 0), (Value.int IntKind.u8 0), (Value.int IntKind.u8 0), (Value.int IntKind.u8 0), (Value.int IntKind.u8 0), (Value.int IntKind.u8 0), (Value.int IntKind.u8 0), (Value.int IntKind.u8 0), (Value.int IntKind.u8 0), (Value.int IntKind.u8 0), (Value.int IntKind.u8 0), (Value.int IntKind.u8 0), (Value.int IntKind.u8 0), (Value.int IntKind.u8 0), (Value.int IntKind.u8 0), (Value.int IntKind.u8 0), (Value.int IntKind.u8 0), (Value.int IntKind.u8 0), (Value.int IntKind.u8 0), (Value.int IntKind.u8 0), (Value.int IntKind.u8 0), (Value.int IntKind.u8 0)] ++ [(Value.int IntKind.u8 0), (Value.int IntKind.u8 0), (Value.int IntKind.u8 0), (Value.int IntKind.u8 0), (Value.int IntKind.u8 0), (Value.int IntKind.u8 0), (Value.int IntKind.u8 0), (Value.int IntKind.u8 0), (Value.int IntKind.u8 0), (Value.int IntKind.u8 0), (Value.int IntKind.u8 0), (Value.int IntKind.u8 0), (Value.int IntKind.u8 0), (Value.int IntKind.u8 0), (Value.int IntKind.u8 0), (Value.int IntKind.u8 0), (Value.int IntKind.u8 0), (Value.int IntKind.u8 0), (Value.int IntKind.u8 0), (Value.int IntKind.u8 0), (Value.int IntKind.u8 0), (Value.int IntKind.u8 0), (Value.int IntKind.u8 0), (Value.int IntKind.u8 0), (Value.int IntKind.u8 0), (Value.int IntKind.u8 0), (Value.int IntKind.u8 0), (Value.int IntKind.u8 0), (Value.int IntKind.u8 0), (Value.int IntKind.u8 0), (Value.int IntKind.u8 0), (Value.int IntKind.u8 0), (Value.int IntKind.u8 0)]))))), 130, 144) := by kernel_rfl
set_option maxRecDepth 100000 in
theorem info47 : tInfo Try.prog 47 = some ((some (Value.agg (List.toArray (([(Value.int IntKind.i64 0), (Value.int IntKind.i64 0), (Value.int IntKind.u8 0), (Value.int IntKind.u8 0), (Value.int IntKind.u8 0), (Value.int IntKind.u8 0), (Value.int IntKind.u8 0), (Value.int IntKind.u8 0), (Value.int IntKind.u8 0), (Value.int IntKind.u8 0), (Value.int IntKind.u8 0), (Value.int IntKind.u8 0), (Value.int IntKind.u8 0), (Value.int IntKind.u8 0), (Value.int IntKind.u8 0), (Value.int IntKind.u8 0), (Value.int IntKind.u8 0), (Value.int IntKind.u8 0), (Value.int IntKind.u8 0), (Value.int IntKind.u8 0), (Value.int IntKind.u8 0), (Value.int IntKind.u8 0), (Value.int IntKind.u8 0), (Value.int IntKind.u8 0), (Value.int IntKind.u8 0), (Value.int IntKind.u8 0), (Value.int IntKind.u8 0), (Value.int IntKind.u8 0), (Value.int IntKind.u8 0), (Value.int IntKind.u8 0), (Value.int IntKind.u8 0), (Value.int IntKind.u8 0)] ++ [(Value.int IntKind.u8 0), (Value.int IntKind.u8 0), (Value.int IntKind.u8 0), (Value.int IntKind.u8 0), (Value.int IntKind.u8 0), (Value.int IntKind.u8 0), (Value.int IntKind.u8 0), (Value.int IntKind.u8 0), (Value.int IntKind.u8 0), (Value.int IntKind.u8 0), (Value.int IntKind.u8 0), (Value.int IntKind.u8 0), (Value.int IntKind.u8 0), (Value.int IntKind.u8 0), (Value.int IntKind.u8 0), (Value.int IntKind.u8 0), (Value.int IntKind.u8 0), (Value.int IntKind.u8 0), (Value.int IntKind.u8 0), (Value.int IntKind.u8 0), (Value.int IntKind.u8 0), (Value.int IntKind.u8 0), (Value.int IntKind.u8 0), (Value.int IntKind.u8 0), (Value.int IntKind.u8 0), (Value.int IntKind.u8 0), (Value.int IntKind.u8 0), (Value.int IntKind.u8 0), (Value.int IntKind.u8 0), (Value.int IntKind.u8 0), (Value.int IntKind.u8 0), (Value.int IntKind.u8 0), (Value.int IntKind.u8 0)]) ++ ([(Value.int IntKind.u8 0), (Value.int IntKind.u8 0), (Value.int IntKind.u8 0), (Value.int IntKind.u8 0), (Value.int IntKind.u8 0), (Value.int IntKind.u8 0), (Value.int IntKind.u8 0), (Value.int IntKind.u8 0), (Value.int IntKind.u8 0), (Value.int IntKind.u8 0), (Value.int IntKind.u8 0), (Value.int IntKind.u8 0), (Value.int IntKind.u8 0), (Value.int IntKind.u8 0), (Value.int IntKind.u8 0), (Value.int IntKind.u8 0), (Value.int IntKind.u8 0), (Value.int IntKind.u8 0), (Value.int IntKind.u8 0), (Value.int IntKind.u8 0), (Value.int IntKind.u8 0), (Value.int IntKind.u8 0), (Value.int IntKind.u8 0), (Value.int IntKind.u8 0), (Value.int IntKind.u8 0), (Value.int IntKind.u8 0), (Value.int IntKind.u8 0), (Value.int IntKind.u8 0), (Value.int IntKind.u8 0), (Value.int IntKind.u8 0), (Value.int IntKind.u8 0), (Value.int IntKind.u8 0)] ++ [(Value.int IntKind.u8 0), (Value.int IntKind.u8 0), (Value.int IntKind.u8 0), (Value.int IntKind.u8 0), (Value.int IntKind.u8 0), (Value.int IntKind.u8 0), (Value.int IntKind.u8 0), (Value.int IntKind.u8 0), (Value.int IntKind.u8 0), (Value.int IntKind.u8 0), (Value.int IntKind.u8 0), (Value.int IntKind.u8 0), (Value.int IntKind.u8 0), (Value.int IntKind.u8 0), (Value.int IntKind.u8 0), (Value.int IntKind.u8 0), (Value.int IntKind.u8 0), (Value.int IntKind.u8 0), (Value.int IntKind.u8 0), (Value.int IntKind.u8 0), (Value.int IntKind.u8 0), (Value.int IntKind.u8 0), (Value.int IntKind.u8 0), (Value.int IntKind.u8 0), (Value.int IntKind.u8 0), (Value.int IntKind.u8 0), (Value.int IntKind.u8 0), (Value.int IntKind.u8 0), (Value.int IntKind.u8 0), (Value.int IntKind.u8 0), (Value.int IntKind.u8 0), (Value.int IntKind.u8 0), (Value.int IntKind.u8 0)]))))), 130, 144) := by kernel_rfl
set_option maxRecDepth 100000 in
theorem info48 : tInfo Try.prog 48 = some ((some Value.nilFunc), 1, 8) := by kernel_rfl
set_option maxRecDepth 100000 in
theorem info49 : tInfo Try.prog 49 = some ((some Value.nilFunc), 1, 8) := by kernel_rfl
set_option maxRecDepth 100000 in
theorem info50 : tInfo Try.prog 50 = some ((some Value.nilFunc), 1, 8) := by kernel_rfl
set_option maxRecDepth 100000 in
theorem info51 : tInfo Try.prog 51 = some ((some (Value.slice none 0 0)), 1, 24) := by kernel_rfl
set_option maxRecDepth 100000 in
theorem info52 : tInfo Try.prog 52 = some ((some (Value.agg #[(Value.int IntKind.i64 0), (Value.int IntKind.i64 0)])), 2, 16) := by kernel_rfl
set_option maxRecDepth 100000 in
theorem info53 : tInfo Try.prog 53 = some ((some (Value.agg #[(Value.int IntKind.i64 0), (Value.int IntKind.i64 0)])), 2, 16) := by kernel_rfl
set_option maxRecDepth 100000 in
theorem info54 : tInfo Try.prog 54 = some ((some (Value.tuple #[(Value.slice none 0 0), (Value.agg #[(Value.int IntKind.i64 0), (Value.int IntKind.i64 0)])])), 1, 0) := by kernel_rfl
set_option maxRecDepth 100000 in
theorem info55 : tInfo Try.prog 55 = some ((some Value.nilFunc), 1, 8) := by kernel_rfl
set_option maxRecDepth 100000 in
theorem info56 : tInfo Try.prog 56 = some ((some Value.nilFunc), 1, 8) := by kernel_rfl
set_option maxRecDepth 100000 in
theorem info57 : tInfo Try.prog 57 = some ((some Value.nilFunc), 1, 8) := by kernel_rfl
set_option maxRecDepth 100000 in
theorem info58 : tInfo Try.prog 58 = some ((some (Value.agg #[(Value.int IntKind.i64 0), (Value.string { data := #[] }), (Value.int IntKind.i64 0), (Value.int IntKind.i64 0)])), 4, 40) := by kernel_rfl
set_option maxRecDepth 100000 in
theorem info59 : tInfo Try.prog 59 = some ((some (Value.agg #[(Value.int IntKind.i64 0), (Value.string { data := #[] }), (Value.int IntKind.i64 0), (Value.int IntKind.i64 0)])), 4, 40) := by kernel_rfl
set_option maxRecDepth 100000 in
theorem info60 : tInfo Try.prog 60 = some ((some Value.nilFunc), 1, 8) := by kernel_rfl
set_option maxRecDepth 100000 in
theorem info61 : tInfo Try.prog 61 = some ((some Value.nilFunc), 1, 8) := by kernel_rfl
set_option maxRecDepth 100000 in
theorem info62 : tInfo Try.prog 62 = some ((some Value.nilFunc), 1, 8) := by kernel_rfl
set_option maxRecDepth 100000 in
theorem info63 : tInfo Try.prog 63 = some ((some Value.nilFunc), 1, 8) := by kernel_rfl
set_option maxRecDepth 100000 in
theorem info64 : tInfo Try.prog 64 = some ((some Value.nilFunc), 1, 8) := by kernel_rfl
set_option maxRecDepth 100000 in
theorem info65 : tInfo Try.prog 65 = some ((some Value.nilFunc), 1, 8) := by kernel_rfl
set_option maxRecDepth 100000 in
theorem info66 : tInfo Try.prog 66 = some ((some Value.nilFunc), 1, 8) := by kernel_rfl
set_option maxRecDepth 100000 in
theorem info67 : tInfo Try.prog 67 = some ((some Value.nilFunc), 1, 8) := by kernel_rfl
set_option maxRecDepth 100000 in
theorem info68 : tInfo Try.prog 68 = some ((some Value.nilFunc), 1, 8) := by kernel_rfl
set_option maxRecDepth 100000 in
theorem info69 : tInfo Try.prog 69 = some ((some Value.nilFunc), 1, 8) := by kernel_rfl
set_option maxRecDepth 100000 in
theorem info70 : tInfo Try.prog 70 = some ((some (Value.slice none 0 0)), 1, 24) := by kernel_rfl
set_option maxRecDepth 100000 in
theorem info71 : tInfo Try.prog 71 = some ((some Value.nilFunc), 1, 8) := by kernel_rfl
set_option maxRecDepth 100000 in
theorem info72 : tInfo Try.prog 72 = some ((some Value.nilFunc), 1, 8) := by kernel_rfl
set_option maxRecDepth 100000 in
theorem info73 : tInfo Try.prog 73 = some ((some Value.nilFunc), 1, 8) := by kernel_rfl
set_option maxRecDepth 100000 in
theorem info74 : tInfo Try.prog 74 = some ((some Value.nilFunc), 1, 8) := by kernel_rfl
set_option maxRecDepth 100000 in
theorem info75 : tInfo Try.prog 75 = some ((some Value.nilFunc), 1, 8) := by kernel_rfl
set_option maxRecDepth 100000 in
theorem info76 : tInfo Try.prog 76 = some ((some (Value.agg #[(Value.int IntKind.i64 0), (Value.string { data := #[] })])), 2, 24) := by kernel_rfl
set_option maxRecDepth 100000 in
theorem info77 : tInfo Try.prog 77 = some ((some (Value.agg #[(Value.int IntKind.i64 0), (Value.string { data := #[] })])), 2, 24) := by kernel_rfl
set_option maxRecDepth 100000 in
theorem info78 : tInfo Try.prog 78 = some ((some Value.nilFunc), 1, 8) := by kernel_rfl
set_option maxRecDepth 100000 in
theorem info79 : tInfo Try.prog 79 = some ((some (Value.tuple #[(Value.agg #[(Value.int IntKind.i64 0), (Value.string { data := #[] }), (Value.int IntKind.i64 0), (Value.int IntKind.i64 0)]), (Value.int IntKind.i64 0), (Value.int IntKind.i64 0)])), 1, 0) := by kernel_rfl
set_option maxRecDepth 100000 in
theorem info80 : tInfo Try.prog 80 = some ((some Value.nilFunc), 1, 8) := by kernel_rfl
set_option maxRecDepth 100000 in
theorem info81 : tInfo Try.prog 81 = some ((some Value.nilFunc), 1, 8) := by kernel_rfl
set_option maxRecDepth 100000 in
theorem info82 : tInfo Try.prog 82 = some ((some Value.nilFunc), 1, 8) := by kernel_rfl
set_option maxRecDepth 100000 in
theorem info83 : tInfo Try.prog 83 = some ((some Value.nilFunc), 1, 8) := by kernel_rfl
set_option maxRecDepth 100000 in
theorem info84 : tInfo Try.prog 84 = some ((some (Value.tuple #[(Value.slice none 0 0), (Value.int IntKind.i64 0), (Value.int IntKind.i64 0)])), 1, 0) := by kernel_rfl
set_option maxRecDepth 100000 in
theorem info85 : tInfo Try.prog 85 = some ((some Value.nilFunc), 1, 8) := by kernel_rfl
set_option maxRecDepth 100000 in
theorem info86 : tInfo Try.prog 86 = some ((some (Value.tuple #[(Value.agg (List.toArray ([(Value.int IntKind.i64 0), (Value.int IntKind.u8 0), (Value.int IntKind.u8 0), (Value.int IntKind.u8 0), (Value.int IntKind.u8 0), (Value.int IntKind.u8 0), (Value.int IntKind.u8 0), (Value.int IntKind.u8 0), (Value.int IntKind.u8 0), (Value.int IntKind.u8 0), (Value.int IntKind.u8 0), (Value.int IntKind.u8 0), (Value.int IntKind.u8 0), (Value.int IntKind.u8 0), (Value.int IntKind.u8 0), (Value.int IntKind.u8 0), (Value.int IntKind.u8 0), (Value.int IntKind.u8 0), (Value.int IntKind.u8 0), (Value.int IntKind.u8 0), (Value.int IntKind.u8 0), (Value.int IntKind.u8 0), (Value.int IntKind.u8 0), (Value.int IntKind.u8 0), (Value.int IntKind.u8 0), (Value.int IntKind.u8 0), (Value.int IntKind.u8 0), (Value.int IntKind.u8 0), (Value.int IntKind.u8 0), (Value.int IntKind.u8 0), (Value.int IntKind.u8 0), (Value.int IntKind.u8 0), (Value.int IntKind.u8 0), (Value.int IntKind.u8 0), (Value.int IntKind.u8 0), (Value.int IntKind.u8 0), (Value.int IntKind.u8 0), (Value.int IntKind.u8 0), (Value.int IntKind.u8 0), (Value.int IntKind.u8 0), (Value.int IntKind.u8 0), (Value.int IntKind.u8 0), (Value.int IntKind.u8 0), (Value.int IntKind.u8 0), (Value.int IntKind.u8 0), (Value.int IntKind.u8 0), (Value.int IntKind.u8 0), (Value.int IntKind.u8 0), (Value.int IntKind.u8 0), (Value.int IntKind.u8 0), (Value.int IntKind.u8 0), (Value.int IntKind.u8 0), (Value.int IntKind.u8 0), (Value.int IntKind.u8 0), (Value.int IntKind.u8 0), (Value.int IntKind.u8 0), (Value.int IntKind.u8 0), (Value.int IntKind.u8 0), (Value.int IntKind.u8 0), (Value.int IntKind.u8 0), (Value.int IntKind.u8 0), (Value.int IntKind.u8 0), (Value.int IntKind.u8 0), (Value.int IntKind.u8 0)] ++ ([(Value.int IntKind.u8 0), (Value.int IntKind.u8 0), (Value.int IntKind.u8 0), (Value.int IntKind.u8 0), (Value.int IntKind.u8 0), (Value.int IntKind.u8 0), (Value.int IntKind.u8 0), (Value.int IntKind.u8 0), (Value.int IntKind.u8 0), (Value.int IntKind.u8 0), (Value.int IntKind.u8 0), (Value.int IntKind.u8 0), (Value.int IntKind.u8 0), (Value.int IntKind.u8 0), (Value.int IntKind.u8 0), (Value.int IntKind.u8 0), (Value.int IntKind.u8 0), (Value.int IntKind.u8 0), (Value.int IntKind.u8 0), (Value.int IntKind.u8 0), (Value.int IntKind.u8 0), (Value.int IntKind.u8 0), (Value.int IntKind.u8 0), (Value.int IntKind.u8 0), (Value.int IntKind.u8 0), (Value.int IntKind.u8 0), (Value.int IntKind.u8 0), (Value.int IntKind.u8 0), (Value.int IntKind.u8 0), (Value.int IntKind.u8 0), (Value.int IntKind.u8 0), (Value.int IntKind.u8 0)] ++ [(Value.int IntKind.u8 0), (Value.int IntKind.u8 0), (Value.int IntKind.u8 0), (Value.int IntKind.u8 0), (Value.int IntKind.u8 0), (Value.int IntKind.u8 0), (Value.int IntKind.u8 0), (Value.int IntKind.u8 0), (Value.int IntKind.u8 0), (Value.int IntKind.u8 0), (Value.int IntKind.u8 0), (Value.int IntKind.u8 0), (Value.int IntKind.u8 0), (Value.int IntKind.u8 0), (Value.int IntKind.u8 0), (Value.int IntKind.u8 0), (Value.int IntKind.u8 0), (Value.int IntKind.u8 0), (Value.int IntKind.u8 0), (Value.int IntKind.u8 0), (Value.int IntKind.u8 0), (Value.int IntKind.u8 0), (Value.int IntKind.u8 0), (Value.int IntKind.u8 0), (Value.int IntKind.u8 0), (Value.int IntKind.u8 0), (Value.int IntKind.u8 0), (Value.int IntKind.u8 0), (Value.int IntKind.u8 0), (Value.int IntKind.u8 0), (Value.int IntKind.u8 0), (Value.int IntKind.u8 0), (Value.int IntKind.u8 0)])))), (Value.int IntKind.i64 0)])), 1, 0) := by kernel_rfl
set_option maxRecDepth 100000 in
theorem info87 : tInfo Try.prog 87 = some ((some Value.nilFunc), 1, 8) := by kernel_rfl
set_option maxRecDepth 100000 in
theorem info88 : tInfo Try.prog 88 = some ((some (Value.tuple #[(Value.int IntKind.i64 0), (Value.int IntKind.i64 0), (Value.int IntKind.i64 0)])), 1, 0) := by kernel_rfl
set_option maxRecDepth 100000 in
theorem info89 : tInfo Try.prog 89 = some ((some Value.nilFunc), 1, 8) := by kernel_rfl
set_option maxRecDepth 100000 in
theorem info90 : tInfo Try.prog 90 = some ((some (Value.map none)), 1, 8) := by kernel_rfl
set_option maxRecDepth 100000 in
theorem info91 : tInfo Try.prog 91 = some ((some (Value.map none)), 1, 8) := by kernel_rfl
set_option maxRecDepth 100000 in
theorem info92 : tInfo Try.prog 92 = some ((some (Value.slice none 0 0)), 1, 24) := by kernel_rfl
set_option maxRecDepth 100000 in
theorem info93 : tInfo Try.prog 93 = some ((some (Value.agg #[(Value.map none), (Value.slice none 0 0), (Value.map none)])), 3, 40) := by kernel_rfl
set_option maxRecDepth 100000 in
theorem info94 : tInfo Try.prog 94 = some ((some (Value.agg #[(Value.map none), (Value.slice none 0 0), (Value.map none)])), 3, 40) := by kernel_rfl
set_option maxRecDepth 100000 in
theorem info95 : tInfo Try.prog 95 = some ((some (Value.slice none 0 0)), 1, 24) := by kernel_rfl
set_option maxRecDepth 100000 in
theorem info96 : tInfo Try.prog 96 = some ((some (Value.agg #[(Value.slice none 0 0)])), 1, 24) := by kernel_rfl
set_option maxRecDepth 100000 in
theorem info97 : tInfo Try.prog 97 = some ((some (Value.agg #[(Value.slice none 0 0)])), 1, 24) := by kernel_rfl
set_option maxRecDepth 100000 in
theorem info98 : tInfo Try.prog 98 = some ((some Value.nilFunc), 1, 8) := by kernel_rfl
set_option maxRecDepth 100000 in
theorem info99 : tInfo Try.prog 99 = some ((some (Value.agg #[(Value.int IntKind.i64 0), (Value.string { data := #[] })])), 2, 24) := by kernel_rfl
set_option maxRecDepth 100000 in
theorem info100 : tInfo Try.prog 100 = some ((some (Value.agg #[(Value.int IntKind.i64 0), (Value.string { data := #[] })])), 2, 24) := by kernel_rfl
set_option maxRecDepth 100000 in
theorem info101 : tInfo Try.prog 101 = some ((some Value.nilFunc), 1, 8) := by kernel_rfl
set_option maxRecDepth 100000 in
theorem info102 : tInfo Try.prog 102 = some ((some Value.nilFunc), 1, 8) := by kernel_rfl
set_option maxRecDepth 100000 in
theorem info103 : tInfo Try.prog 103 = some ((some Value.nilFunc), 1, 8) := by kernel_rfl
set_option maxRecDepth 100000 in
theorem info104 : tInfo Try.prog 104 = some ((some Value.nilFunc), 1, 8) := by kernel_rfl
set_option maxRecDepth 100000 in
theorem info105 : tInfo Try.prog 105 = some ((some Value.nilFunc), 1, 8) := by kernel_rfl
set_option maxRecDepth 100000 in
theorem info106 : tInfo Try.prog 106 = some ((some (Value.int IntKind.u64 0)), 1, 8) := by kernel_rfl
set_option maxRecDepth 100000 in
theorem info107 : tInfo Try.prog 107 = some ((some Value.nilFunc), 1, 8) := by kernel_rfl
set_option maxRecDepth 100000 in
theorem info108 : tInfo Try.prog 108 = some ((some (Value.slice none 0 0)), 1, 24) := by kernel_rfl
set_option maxRecDepth 100000 in
theorem info109 : tInfo Try.prog 109 = some ((some Value.nilFunc), 1, 8) := by kernel_rfl
set_option maxRecDepth 100000 in
theorem info110 : tInfo Try.prog 110 = some ((some (Value.slice none 0 0)), 1, 24) := by kernel_rfl
set_option maxRecDepth 100000 in
theorem info111 : tInfo Try.prog 111 = some ((some Value.nilFunc), 1, 8) := by kernel_rfl
set_option maxRecDepth 100000 in
theorem info112 : tInfo Try.prog 112 = some ((some Value.nilFunc), 1, 8) := by kernel_rfl
set_option maxRecDepth 100000 in
theorem info113 : tInfo Try.prog 113 = some ((some Value.nilFunc), 1, 8) := by kernel_rfl
set_option maxRecDepth 100000 in
theorem info114 : tInfo Try.prog 114 = some ((some (Value.tuple #[(Value.agg #[(Value.int IntKind.i64 0), (Value.string { data := #[] }), (Value.int IntKind.i64 0), (Value.int IntKind.i64 0)]), (Value.int IntKind.i64 0)])), 1, 0) := by kernel_rfl
set_option maxRecDepth 100000 in
theorem info115 : tInfo Try.prog 115 = some ((some Value.nilFunc), 1, 8) := by kernel_rfl
set_option maxRecDepth 100000 in
theorem info116 : tInfo Try.prog 116 = some ((some Value.nilFunc), 1, 8) := by kernel_rfl
set_option maxRecDepth 100000 in
theorem info117 : tInfo Try.prog 117 = some ((some Value.nilFunc), 1, 8) := by kernel_rfl
set_option maxRecDepth 100000 in
theorem info118 : tInfo Try.prog 118 = some ((some (Value.tuple #[(Value.slice none 0 0), (Value.int IntKind.i64 0), (Value.int IntKind.i64 0)])), 1, 0) := by kernel_rfl
set_option maxRecDepth 100000 in
theorem info119 : tInfo Try.prog 119 = some ((some Value.nilFunc), 1, 8) := by kernel_rfl
set_option maxRecDepth 100000 in
theorem info120 : tInfo Try.prog 120 = some ((some (Value.pointer none)), 1, 8) := by kernel_rfl
set_option maxRecDepth 100000 in
theorem info121 : tInfo Try.prog 121 = some ((some Value.nilFunc), 1, 8) := by kernel_rfl
set_option maxRecDepth 100000 in
theorem info122 : tInfo Try.prog 122 = some ((some Value.nilFunc), 1, 8) := by kernel_rfl
set_option maxRecDepth 100000 in
theorem info123 : tInfo Try.prog 123 = some ((some Value.nilFunc), 1, 8) := by kernel_rfl
set_option maxRecDepth 100000 in
theorem info124 : tInfo Try.prog 124 = some ((some (Value.agg #[(Value.slice none 0 0), (Value.bool false)])), 2, 32) := by kernel_rfl
set_option maxRecDepth 100000 in
theorem info125 : tInfo Try.prog 125 = some ((some (Value.agg #[(Value.slice none 0 0), (Value.bool false)])), 2, 32) := by kernel_rfl
set_option maxRecDepth 100000 in
theorem info126 : tInfo Try.prog 126 = some ((some (Value.tuple #[(Value.int IntKind.i64 0), (Value.bool false)])), 1, 0) := by kernel_rfl
set_option maxRecDepth 100000 in
theorem info127 : tInfo Try.prog 127 = some ((some Value.nilFunc), 1, 8) := by kernel_rfl
set_option maxRecDepth 100000 in
theorem info128 : tInfo Try.prog 128 = some ((some Value.nilFunc), 1, 8) := by kernel_rfl
set_option maxRecDepth 100000 in
theorem info129 : tInfo Try.prog 129 = some ((some (Value.tuple #[(Value.slice none 0 0), (Value.bool false)])), 1, 0) := by kernel_rfl
set_option maxRecDepth 100000 in
theorem info130 : tInfo Try.prog 130 = some ((some Value.nilFunc), 1, 8) := by kernel_rfl
set_option maxRecDepth 100000 in
theorem info131 : tInfo Try.prog 131 = some ((some Value.nilFunc), 1, 8) := by kernel_rfl
set_option maxRecDepth 100000 in
theorem info132 : tInfo Try.prog 132 = some ((some (Value.tuple #[(Value.agg #[(Value.int IntKind.u8 0), (Value.int IntKind.u8 0), (Value.int IntKind.u8 0), (Value.int IntKind.u8 0), (Value.int IntKind.u8 0), (Value.int IntKind.u8 0), (Value.int IntKind.u8 0), (Value.int IntKind.u8 0), (Value.int IntKind.u8 0), (Value.int IntKind.u8 0), (Value.int IntKind.u8 0), (Value.int IntKind.u8 0), (Value.int IntKind.u8 0), (Value.int IntKind.u8 0), (Value.int IntKind.u8 0), (Value.int IntKind.u8 0), (Value.int IntKind.u8 0), (Value.int IntKind.u8 0), (Value.int IntKind.u8 0), (Value.int IntKind.u8 0), (Value.int IntKind.u8 0), (Value.int IntKind.u8 0), (Value.int IntKind.u8 0), (Value.int IntKind.u8 0), (Value.int IntKind.u8 0), (Value.int IntKind.u8 0), (Value.int IntKind.u8 0), (Value.int IntKind.u8 0), (Value.int IntKind.u8 0), (Value.int IntKind.u8 0), (Value.int IntKind.u8 0), (Value.int IntKind.u8 0)]), (Value.bool false)])), 1, 0) := by kernel_rfl
set_option maxRecDepth 100000 in
theorem info133 : tInfo Try.prog 133 = some ((some Value.nilFunc), 1, 8) := by kernel_rfl
set_option maxRecDepth 100000 in
theorem info134 : tInfo Try.prog 134 = some ((some Value.nilFunc), 1, 8) := by kernel_rfl
set_option maxRecDepth 100000 in
theorem info135 : tInfo Try.prog 135 = some ((some (Value.int IntKind.u32 0)), 1, 4) := by kernel_rfl
set_option maxRecDepth 100000 in
theorem info136 : tInfo Try.prog 136 = some ((some Value.nilFunc), 1, 8) := by kernel_rfl
set_option maxRecDepth 100000 in
theorem info137 : tInfo Try.prog 137 = some ((some (Value.int IntKind.u64 0)), 1, 8) := by kernel_rfl
set_option maxRecDepth 100000 in
theorem info138 : tInfo Try.prog 138 = some ((some (Value.pointer none)), 1, 8) := by kernel_rfl
set_option maxRecDepth 100000 in
theorem info139 : tInfo Try.prog 139 = some ((some (Value.agg #[(Value.pointer none), (Value.slice none 0 0)])), 2, 32) := by kernel_rfl
set_option maxRecDepth 100000 in
theorem info140 : tInfo Try.prog 140 = some ((some (Value.agg #[(Value.pointer none), (Value.slice none 0 0)])), 2, 32) := by kernel_rfl
set_option maxRecDepth 100000 in
theorem info141 : tInfo Try.prog 141 = some ((some Value.nilFunc), 1, 8) := by kernel_rfl
set_option maxRecDepth 100000 in
theorem info142 : tInfo Try.prog 142 = some ((some Value.nilIface), 1, 16) := by kernel_rfl
set_option maxRecDepth 100000 in
theorem info143 : tInfo Try.prog 143 = some ((some Value.nilIface), 1, 16) := by kernel_rfl
set_option maxRecDepth 100000 in
theorem info144 : tInfo Try.prog 144 = some ((some (Value.tuple #[(Value.int IntKind.i64 0), Value.nilIface])), 1, 0) := by kernel_rfl
set_option maxRecDepth 100000 in
theorem info145 : tInfo Try.prog 145 = some ((some Value.nilFunc), 1, 8) := by kernel_rfl
set_option maxRecDepth 100000 in
theorem info146 : tInfo Try.prog 146 = some ((some Value.nilFunc), 1, 8) := by kernel_rfl
set_option maxRecDepth 100000 in
theorem info147 : tInfo Try.prog 147 = some ((some Value.nilFunc), 1, 8) := by kernel_rfl
set_option maxRecDepth 100000 in
theorem info148 : tInfo Try.prog 148 = some ((some Value.nilFunc), 1, 8) := by kernel_rfl
set_option maxRecDepth 100000 in
theorem info149 : tInfo Try.prog 149 = some ((some Value.nilFunc), 1, 8) := by kernel_rfl
set_option maxRecDepth 100000 in
theorem info150 : tInfo Try.prog 150 = some ((some Value.nilFunc), 1, 8) := by kernel_rfl
set_option maxRecDepth 100000 in
theorem info151 : tInfo Try.prog 151 = some ((some Value.nilFunc), 1, 8) := by kernel_rfl
set_option maxRecDepth 100000 in
theorem info152 : tInfo Try.prog 152 = some ((some (Value.pointer none)), 1, 8) := by kernel_rfl
set_option maxRecDepth 100000 in
theorem info153 : tInfo Try.prog 153 = some ((some Value.nilFunc), 1, 8) := by kernel_rfl
set_option maxRecDepth 100000 in
theorem info154 : tInfo Try.prog 154 = some ((some (Value.pointer none)), 1, 8) := by kernel_rfl
set_option maxRecDepth 100000 in
theorem info155 : tInfo Try.prog 155 = some ((some Value.nilFunc), 1, 8) := by kernel_rfl
set_option maxRecDepth 100000 in
theorem info156 : tInfo Try.prog 156 = some ((some (Value.agg #[(Value.pointer none), (Value.pointer none), (Value.pointer none), (Value.string { data := #[] })])), 4, 40) := by kernel_rfl
set_option maxRecDepth 100000 in
theorem info157 : tInfo Try.prog 157 = some ((some (Value.agg #[(Value.pointer none), (Value.pointer none), (Value.pointer none), (Value.string { data := #[] })])), 4, 40) := by kernel_rfl
set_option maxRecDepth 100000 in
theorem info158 : tInfo Try.prog 158 = some ((some (Value.agg #[])), 0, 0) := by kernel_rfl
set_option maxRecDepth 100000 in
theorem info159 : tInfo Try.prog 159 = some ((some (Value.agg #[])), 0, 0) := by kernel_rfl
set_option maxRecDepth 100000 in
theorem info160 : tInfo Try.prog 160 = some ((some (Value.agg #[])), 0, 0) := by kernel_rfl
set_option maxRecDepth 100000 in
theorem info161 : tInfo Try.prog 161 = some ((some (Value.int IntKind.u8 0)), 1, 1) := by kernel_rfl
set_option maxRecDepth 100000 in
theorem info162 : tInfo Try.prog 162 = some ((some (Value.int IntKind.u8 0)), 1, 1) := by kernel_rfl
set_option maxRecDepth 100000 in
theorem info163 : tInfo Try.prog 163 = some ((some Value.nilFunc), 1, 8) := by kernel_rfl
set_option maxRecDepth 100000 in
theorem info164 : tInfo Try.prog 164 = some ((some (Value.int IntKind.i32 0)), 1, 4) := by kernel_rfl
set_option maxRecDepth 100000 in
theorem info165 : tInfo Try.prog 165 = some ((some (Value.int IntKind.i32 0)), 1, 4) := by kernel_rfl
set_option maxRecDepth 100000 in
theorem info166 : tInfo Try.prog 166 = some ((some (Value.agg #[(Value.int IntKind.u64 0), (Value.int IntKind.u64 0), (Value.int IntKind.u32 0), (Value.int IntKind.u8 0), (Value.int IntKind.u8 0), (Value.int IntKind.u8 0), (Value.int IntKind.u8 0), Value.nilFunc, (Value.pointer none), (Value.int IntKind.i32 0), (Value.int IntKind.i32 0)])), 11, 48) := by kernel_rfl
set_option maxRecDepth 100000 in
theorem info167 : tInfo Try.prog 167 = some ((some (Value.agg #[(Value.int IntKind.u64 0), (Value.int IntKind.u64 0), (Value.int IntKind.u32 0), (Value.int IntKind.u8 0), (Value.int IntKind.u8 0), (Value.int IntKind.u8 0), (Value.int IntKind.u8 0), Value.nilFunc, (Value.pointer none), (Value.int IntKind.i32 0), (Value.int IntKind.i32 0)])), 11, 48) := by kernel_rfl
end Go.Proofs.Ytkbfngepdgdecaa
