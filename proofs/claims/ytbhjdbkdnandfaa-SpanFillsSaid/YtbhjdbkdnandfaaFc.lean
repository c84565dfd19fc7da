/- Closed facts of this seat's types and functions, printed by wip/fw/walk.py. -/
import Derived.Test.YtbhjdbkdnandfaaProg
import Derived.Test.YtbhjdbkdnandfaaFe
import Derived.KernelRfl
namespace Go.Proofs.Ytbhjdbkdnandfaa
open Go Go.Fw Go.Proofs
theorem mixed : Try.prog.follows .mixedOrders = true := by kernel_rfl
theorem ag31 : aggOk Try.prog 31 2 = true := by kernel_rfl
theorem ag35 : aggOk Try.prog 35 2 = true := by kernel_rfl
theorem ag37 : aggOk Try.prog 37 2 = true := by kernel_rfl
theorem bool4 : boolOk Try.prog 4 = true := by kernel_rfl
theorem cv59_5 : convOk Try.prog 59 5 .u8 = true := by kernel_rfl
theorem fa31_0 : fieldOk Try.prog 31 0 0 = true := by kernel_rfl
theorem fa31_1 : fieldOk Try.prog 31 1 1 = true := by kernel_rfl
theorem fa35_0 : fieldOk Try.prog 35 0 0 = true := by kernel_rfl
theorem fa35_1 : fieldOk Try.prog 35 1 1 = true := by kernel_rfl
theorem fa37_0 : fieldOk Try.prog 37 0 0 = true := by kernel_rfl
theorem fa37_1 : fieldOk Try.prog 37 1 1 = true := by kernel_rfl
theorem fa61_0 : fieldOk Try.prog 61 0 0 = true := by kernel_rfl
theorem fa61_1 : fieldOk Try.prog 61 1 1 = true := by kernel_rfl
theorem fn10 : callOk Try.prog 10 = true := by kernel_rfl
theorem fn11 : callOk Try.prog 11 = true := by kernel_rfl
theorem fn12 : callOk Try.prog 12 = true := by kernel_rfl
theorem fn13 : callOk Try.prog 13 = true := by kernel_rfl
theorem fn14 : callOk Try.prog 14 = true := by kernel_rfl
theorem fn15 : callOk Try.prog 15 = true := by kernel_rfl
theorem fn16 : callOk Try.prog 16 = true := by kernel_rfl
theorem fn17 : callOk Try.prog 17 = true := by kernel_rfl
theorem fn18 : callOk Try.prog 18 = true := by kernel_rfl
theorem fn19 : callOk Try.prog 19 = true := by kernel_rfl
theorem fn20 : callOk Try.prog 20 = true := by kernel_rfl
theorem fn21 : callOk Try.prog 21 = true := by kernel_rfl
theorem fn22 : callOk Try.prog 22 = true := by kernel_rfl
theorem fn23 : callOk Try.prog 23 = true := by kernel_rfl
theorem fn24 : callOk Try.prog 24 = true := by kernel_rfl
theorem fn25 : callOk Try.prog 25 = true := by kernel_rfl
theorem fn26 : callOk Try.prog 26 = true := by kernel_rfl
theorem fn27 : callOk Try.prog 27 = true := by kernel_rfl
theorem fn28 : callOk Try.prog 28 = true := by kernel_rfl
theorem fn29 : callOk Try.prog 29 = true := by kernel_rfl
theorem fn30 : callOk Try.prog 30 = true := by kernel_rfl
theorem fn31 : callOk Try.prog 31 = true := by kernel_rfl
theorem fn32 : callOk Try.prog 32 = true := by kernel_rfl
theorem fn33 : callOk Try.prog 33 = true := by kernel_rfl
theorem fn34 : callOk Try.prog 34 = true := by kernel_rfl
theorem fn7 : callOk Try.prog 7 = true := by kernel_rfl
theorem fn8 : callOk Try.prog 8 = true := by kernel_rfl
theorem fn9 : callOk Try.prog 9 = true := by kernel_rfl
theorem info33 : (Try.prog.info? 33).map (fun i => (i.zero, i.size, i.bytes)) = some (some (.slice none 0 0), 1, 24) := by kernel_rfl
theorem info37 : (Try.prog.info? 37).map (fun i => (i.zero, i.size, i.bytes)) = some (some (.agg #[(.int .i64 0), (.int .i64 0)]), 2, 16) := by kernel_rfl
theorem info5 : (Try.prog.info? 5).map (fun i => (i.zero, i.size, i.bytes)) = some (some (.int .u8 0), 1, 1) := by kernel_rfl
theorem pair37 : pairOk Try.prog 37 = true := by kernel_rfl
theorem ptr25 : ptrOk Try.prog 25 = true := by kernel_rfl
theorem sc29 : scalarOk Try.prog 29 = true := by kernel_rfl
theorem sc3 : scalarOk Try.prog 3 = true := by kernel_rfl
theorem sc33 : scalarOk Try.prog 33 = true := by kernel_rfl
theorem sc5 : scalarOk Try.prog 5 = true := by kernel_rfl
theorem sl22 : sliceOk Try.prog 22 35 2 = true := by kernel_rfl
theorem sl29 : sliceOk Try.prog 29 33 1 = true := by kernel_rfl
theorem sl33 : sliceOk Try.prog 33 5 1 = true := by kernel_rfl
theorem sl51 : sliceOk Try.prog 51 37 2 = true := by kernel_rfl
theorem str33 : strOk Try.prog 33 9 = true := by kernel_rfl
theorem sz29 : (Try.prog.info? 29).map (·.size) = some 1 := by kernel_rfl
theorem sz31 : (Try.prog.info? 31).map (·.size) = some 2 := by kernel_rfl
theorem sz33 : (Try.prog.info? 33).map (·.size) = some 1 := by kernel_rfl
theorem sz35 : (Try.prog.info? 35).map (·.size) = some 2 := by kernel_rfl
theorem sz37 : (Try.prog.info? 37).map (·.size) = some 2 := by kernel_rfl
theorem zi31 : (Try.prog.info? 31).map (·.zero) = some (some (.agg #[(.int .i64 0), (.slice none 0 0)])) := by kernel_rfl
theorem zi35 : (Try.prog.info? 35).map (·.zero) = some (some (.agg #[(.int .i64 0), (.slice none 0 0)])) := by kernel_rfl
theorem zi37 : (Try.prog.info? 37).map (·.zero) = some (some (.agg #[(.int .i64 0), (.int .i64 0)])) := by kernel_rfl
theorem zs33 : (Try.prog.info? 33).map (fun i => (i.zero, i.size)) = some (some (.slice none 0 0), 1) := by kernel_rfl
theorem zs37 : (Try.prog.info? 37).map (fun i => (i.zero, i.size)) = some (some (.agg #[(.int .i64 0), (.int .i64 0)]), 2) := by kernel_rfl
theorem zs5 : (Try.prog.info? 5).map (fun i => (i.zero, i.size)) = some (some (.int .u8 0), 1) := by kernel_rfl
end Go.Proofs.Ytbhjdbkdnandfaa
