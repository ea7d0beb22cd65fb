import Derived.Test.YtinhfpljdjlomaaGreatXPath5
/-!
Join and Closed, of both packages; the reference's Reverse.
-/
open Go Go.Proofs
namespace Ab
set_option maxRecDepth 100000
set_option maxHeartbeats 1000000

noncomputable def joinB (a b : List Ps) : Bool := pathB a && (pathB b && (same (a.getD (a.length - 1) []) (b.getD 0 []) && decide (a.length + b.length ≤ 25)))
noncomputable def joinF (a b : List Ps) : AV := match joinB a b with | true => .tup [pthv (a ++ b.drop 1), .int .i64 0] | false => .tup [.sl [], .int .i64 170]
theorem getD_at {c : List Ps} {i : Nat} (h : i < c.length) : c[i]? = some (c.getD i []) := by rw [List.getD_eq_getElem?_getD, List.getElem?_eq_getElem h]; rfl
/-! what is appended -/
def accV : List Ps → AV
  | [] => .nil
  | p :: l => .ms 0 0 (p :: l).length
def accH : List Ps → List (Nat × Blk)
  | [] => []
  | p :: l => [(0, .own 30 ((p :: l).map AV.sl))]
theorem app_sl (l : List Ps) (p : Ps) : appL (l.map AV.sl) [AV.sl p] = (l ++ [p]).map AV.sl := by rw [appL_eq]; simp
/-- after the first list -/
def ac2V (a : List Ps) : List Ps → AV
  | [] => .ms 0 0 a.length
  | p :: l => .ms 1 0 (a ++ p :: l).length
def ac2H (a : List Ps) : List Ps → List (Nat × Blk)
  | [] => [(0, .own 30 (a.map AV.sl))]
  | p :: l => [(1, .own 30 ((a ++ p :: l).map AV.sl))]
end Ab
