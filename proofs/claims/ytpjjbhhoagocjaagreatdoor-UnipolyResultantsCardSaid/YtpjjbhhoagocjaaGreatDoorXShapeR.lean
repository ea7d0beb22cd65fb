import Derived.Test.YtpjjbhhoagocjaaGreatDoorXQv
import Derived.Test.YtpjjbhhoagocjaaGreatDoorXGu
open Go Go.WideShapes Go.RowKit Go.Proofs
namespace Ab
set_option maxRecDepth 100000
theorem cells_slice {P : Program} {w : World} {r : Reach} {b0 : Nat} {t e : TypeId} {v : Value} (ht : P.underlying t = some (.slice e)) (h : Value.okWide P w r b0 t v) : v.cells = #[v]:=by
 obtain ⟨_,_,_,rfl⟩:=okWide_slice ht h
 rfl
end Ab
