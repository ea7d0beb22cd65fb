import Derived.Test.YtpjjbhhoagocjaaGreatDoorXLib
import Derived.IntWalk
open Go
namespace Ab
abbrev w64 (n : Int) : Int:=IntKind.i64.wrap n
theorem w64_eq {n : Int} (h : -9223372036854775808 <= n∧n <= 9223372036854775807) : w64 n = n:=by rw [w64,Go.IntWalk.i64_in _ (by omega)]
def irows (k : IntKind) (l : List Int) : List (List AV):=l.map fun x => [.int k x]
theorem irows_len (k : IntKind) (l : List Int) : (irows k l).length = l.length:=by simp [irows]
theorem irows_at {k : IntKind} {l : List Int} {i : Nat} {x : Int} (h : l[i]? = some x) : (irows k l)[i]? = some [.int k x]:=by simp [irows,h]
theorem irows_ok (k : IntKind) (l : List Int) : RowsOk 1 (irows k l):=fun r hr => by
 obtain ⟨x,_,rfl⟩:=List.mem_map.1 hr; rfl
theorem irows_take (k : IntKind) (l : List Int) (n : Nat) : (irows k l).take n = irows k (l.take n):=by simp [irows]
theorem irows_app (k : IntKind) (l m : List Int) : irows k l ++ irows k m = irows k (l ++ m):=by simp [irows]
theorem irows_set (k : IntKind) (l : List Int) (i : Nat) (x : Int) : (irows k l).set i [.int k x] = irows k (l.set i x):=by
 simp [irows,List.map_set]
theorem irows_rep (k : IntKind) (n : Nat) (x : Int) : List.replicate n [AV.int k x] = irows k (List.replicate n x):=by simp [irows]
end Ab
