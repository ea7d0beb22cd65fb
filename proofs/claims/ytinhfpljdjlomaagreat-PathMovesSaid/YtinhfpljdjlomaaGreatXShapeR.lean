import Derived.Test.YtinhfpljdjlomaaGreatXQv
import Derived.Test.YtinhfpljdjlomaaGreatXGu
open Go Go.WideShapes Go.RowKit Go.Proofs
namespace Ab
set_option maxRecDepth 100000
theorem cells_slice {P : Program} {w : World} {r : Reach} {b0 : Nat} {t e : TypeId} {v : Value} (ht : P.underlying t = some (.slice e)) (h : Value.okWide P w r b0 t v) : v.cells = #[v]:=by
 obtain ⟨_,_,_,rfl⟩:=okWide_slice ht h
 rfl
theorem shp_I {k : Nat} {avs : List AV} (h : Shp Tryz.prog (k + 3) 65 avs) : ∃ b l,avs = [.bool b,lim l] ∧ Dg.D l:=by
 obtain ⟨x0,y0,rfl,h0,x1,y1,rfl,h1,rfl⟩:=shp_struct Tryz.underlying65 h
 obtain ⟨b,rfl⟩:=shp_bool Tryz.underlying4 h0
 obtain ⟨rows,rfl,_,hr⟩:=shp_slice Tryz.underlying63 h1
 obtain ⟨l,rfl,hl⟩:=shp_ints Tryz.underlying132 hr
 refine ⟨b,l,rfl,fun x hx => ?_⟩
 obtain ⟨g1,g2⟩:=Bool.and_eq_true_iff.1 (hl x hx)
 have g1 : (0 : Int) <= x:=of_decide_eq_true g1
 have g2 : x <= (4294967295 : Int):=of_decide_eq_true g2
 exact ⟨g1,by unfold Dg.B; omega⟩
theorem shp_Q {k : Nat} {avs : List AV} (h : Shp Tryz.prog (k + 4) 67 avs) : QD avs:=by
 obtain ⟨x0,y0,rfl,h0,x1,y1,rfl,h1,rfl⟩:=shp_struct Tryz.underlying67 h
 obtain ⟨b,l,rfl,hl⟩:=shp_I h0
 obtain ⟨c,m,rfl,hm⟩:=shp_I h1
 exact ⟨b,l,c,m,rfl,hl,hm⟩
end Ab
