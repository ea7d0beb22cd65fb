import Derived.Test.YtpjjbhhoagocjaaGreatDoorXJoinU
import Derived.Test.YtpjjbhhoagocjaaGreatDoorXGug
namespace Go.Proofs.YtpjjbhhoagocjaaGreatDoor
open Go.ChangeShapes Go.WideShapes Go.ChangeAt Go.RowKit Ab
set_option maxRecDepth 100000
theorem bytes_shape {k : Nat} {av : AV} (h : Shp Tryz.prog (k + 1 + 1) 56 [av]) : ∃ l : List Int,av = .sl (irows .u8 l) ∧ l.length <= maxLen ∧ ∀ x ∈ l,U8 x:=by
 obtain ⟨rows,h1,h2,h3⟩:=shp_slice (k:=k + 1) Tryz.underlying56 h
 obtain ⟨l,rfl,hl⟩:=shp_ints Tryz.underlying5 h3
 refine ⟨l,List.head_eq_of_cons_eq h1,by rw [irows_len] at h2; exact h2,fun x hx => ?_⟩
 have:=hl x hx
 simp only [Lit.wf,Bool.and_eq_true,decide_eq_true_eq] at this
 exact this
end Go.Proofs.YtpjjbhhoagocjaaGreatDoor
