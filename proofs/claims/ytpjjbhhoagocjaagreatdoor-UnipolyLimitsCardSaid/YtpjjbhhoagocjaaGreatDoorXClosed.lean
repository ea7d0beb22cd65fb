import Derived.Test.YtpjjbhhoagocjaaGreatDoorXJoinU
namespace Go.Proofs.YtpjjbhhoagocjaaGreatDoor
open Go.ChangeShapes Go.WideShapes Go.ChangeAt Go.RowKit Ab
set_option maxRecDepth 100000
theorem cl_enter : Tryz.pinned.checked.prog.mayEnter = true:=by kernel_rfl
theorem cl_lifts : Tryz.pinned.checked.prog.liftsFinal = Rows.unipolyRingRow.lifted:=by kernel_rfl
theorem cl_make : Tryz.pinned.checked.prog.make = some Rows.unipolyRingRow.make:=by kernel_rfl
theorem cl_main : Tryz.pinned.checked.prog.mainIs = some (true, "673d2eafa11b1bca90c8d65118d41838f54ad8c7960c1889da24e474b729317e".toList) := by kernel_rfl
theorem cl_laid : laidOutB Tryz.pinned.checked.prog = true:=by kernel_rfl
theorem cl_heard : Tryz.pinned.checked.prog.stopsHeard = true:=by kernel_rfl
theorem cl_rowed : mapsRowed Tryz.pinned.checked.prog = true:=by kernel_rfl
theorem cl_keys : Tryz.pinned.checked.prog.plainKeys = Rows.unipolyRingRow.plainKeys:=by kernel_rfl
theorem cl_looks : true = Tryz.pinned.checked.prog.looks []:=by kernel_rfl
end Go.Proofs.YtpjjbhhoagocjaaGreatDoor
