import Derived.Test.YteghdokklckbhaaDoorXSpec
import Derived.Test.YteghdokklckbhaaDoorProg
import Derived.KernelRfl
open Go Go.Proofs
namespace Ab
def T : List (Nat × TyI) := [
  (3, { sz := 1, by_ := 8, zv := AV.int IntKind.i64 (0), sl := none, ag := false, lay := [], arr := none, k := some IntKind.i64, bo := false, fo := true, ael := none }),
  (4, { sz := 1, by_ := 1, zv := AV.bool false, sl := none, ag := false, lay := [], arr := none, k := none, bo := true, fo := true, ael := none }),
  (2, { sz := 1, by_ := 8, zv := AV.int IntKind.i64 (0), sl := none, ag := false, lay := [], arr := none, k := some IntKind.i64, bo := false, fo := true, ael := none }),
  (30, { sz := 1, by_ := 24, zv := AV.nil, sl := some 56, ag := false, lay := [], arr := none, k := none, bo := false, fo := true, ael := none }),
  (32, { sz := 2, by_ := 32, zv := AV.agg [AV.bool false, AV.nil], sl := none, ag := true, lay := [(0, 1), (1, 1)], arr := none, k := none, bo := false, fo := true, ael := none }),
  (24, { sz := 1, by_ := 8, zv := AV.int IntKind.i64 (0), sl := none, ag := false, lay := [], arr := none, k := some IntKind.i64, bo := false, fo := true, ael := none }),
  (83, { sz := 1, by_ := 8, zv := AV.int IntKind.u64 (0), sl := none, ag := false, lay := [], arr := none, k := some IntKind.u64, bo := false, fo := true, ael := none }),
  (5, { sz := 1, by_ := 1, zv := AV.int IntKind.u8 (0), sl := none, ag := false, lay := [], arr := none, k := some IntKind.u8, bo := false, fo := true, ael := none }),
  (56, { sz := 1, by_ := 4, zv := AV.int IntKind.u32 (0), sl := none, ag := false, lay := [], arr := none, k := some IntKind.u32, bo := false, fo := true, ael := none }),
  (34, { sz := 4, by_ := 64, zv := AV.agg [AV.bool false, AV.nil, AV.bool false, AV.nil], sl := none, ag := true, lay := [(0, 2), (2, 2)], arr := none, k := none, bo := false, fo := true, ael := none }),
  (44, { sz := 1, by_ := 24, zv := AV.nil, sl := some 43, ag := false, lay := [], arr := none, k := none, bo := false, fo := true, ael := none }),
  (43, { sz := 1, by_ := 24, zv := AV.nil, sl := some 3, ag := false, lay := [], arr := none, k := none, bo := false, fo := true, ael := none }),
  (9, { sz := 1, by_ := 16, zv := AV.str { data := { toList := [] } }, sl := none, ag := false, lay := [], arr := none, k := none, bo := false, fo := true, ael := none }),
  (12, { sz := 1, by_ := 8, zv := AV.int IntKind.u64 (0), sl := none, ag := false, lay := [], arr := none, k := some IntKind.u64, bo := false, fo := true, ael := none }),
  (73, { sz := 2, by_ := 16, zv := AV.agg [AV.int IntKind.i64 (0), AV.int IntKind.i64 (0)], sl := none, ag := true, lay := [(0, 1), (1, 1)], arr := none, k := none, bo := false, fo := true, ael := none }),
  (21, { sz := 1, by_ := 4, zv := AV.int IntKind.i32 (0), sl := none, ag := false, lay := [], arr := none, k := some IntKind.i32, bo := false, fo := true, ael := none }),
  (33, { sz := 4, by_ := 64, zv := AV.agg [AV.bool false, AV.nil, AV.bool false, AV.nil], sl := none, ag := true, lay := [(0, 2), (2, 2)], arr := none, k := none, bo := false, fo := true, ael := none }),
  (80, { sz := 1, by_ := 8, zv := AV.int IntKind.u64 (0), sl := none, ag := false, lay := [], arr := none, k := some IntKind.u64, bo := false, fo := true, ael := none }),
  (53, { sz := 2, by_ := 2, zv := AV.agg [AV.bool false, AV.bool false], sl := none, ag := true, lay := [], arr := some (2, 1), k := none, bo := false, fo := true, ael := some 4 }),
  (60, { sz := 4, by_ := 32, zv := AV.agg [AV.int IntKind.i64 (0), AV.int IntKind.i64 (0), AV.int IntKind.i64 (0), AV.int IntKind.i64 (0)], sl := none, ag := true, lay := [], arr := some (4, 1), k := none, bo := false, fo := true, ael := some 3 }),
  (31, { sz := 2, by_ := 32, zv := AV.agg [AV.bool false, AV.nil], sl := none, ag := true, lay := [(0, 1), (1, 1)], arr := none, k := none, bo := false, fo := true, ael := none }),
  (96, { sz := 1, by_ := 24, zv := AV.nil, sl := some 34, ag := false, lay := [], arr := none, k := none, bo := false, fo := true, ael := none }),
  (121, { sz := 0, by_ := 0, zv := AV.agg [], sl := none, ag := true, lay := [], arr := some (0, 1), k := none, bo := false, fo := true, ael := some 16 }),
  (72, { sz := 2, by_ := 16, zv := AV.agg [AV.int IntKind.i64 (0), AV.int IntKind.i64 (0)], sl := none, ag := true, lay := [(0, 1), (1, 1)], arr := none, k := none, bo := false, fo := true, ael := none })]
set_option maxRecDepth 1000000 in
theorem T_list : T.map (fun p => tyOf Tryd.prog p.1) = T.map (fun p => some p.2) := by kernel_rfl
theorem T_ok : TOk Tryd.prog T := tok_of T_list
end Ab
