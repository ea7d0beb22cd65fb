import Derived.Test.YtinhfpljdjlomaaGreatXShapePc
import Derived.Test.YtinhfpljdjlomaaGreatXGk
open Go Go.WideShapes Go.RowKit Go.Proofs
namespace Ab
set_option maxRecDepth 100000
theorem shp_step {k : Nat} {avs : List AV} (h : Shp Tryz.prog (k + 5) 109 avs) : ∃ s : Sp,avs = srow s ∧ SpOk s:=by
 obtain ⟨x0,y0,rfl,h0,x1,y1,rfl,h1,x2,y2,rfl,h2,x3,y3,rfl,h3,x4,y4,rfl,h4,x5,y5,rfl,h5,rfl⟩:=shp_struct Tryz.underlying109 h
 obtain ⟨nm,rfl⟩:=shp_str Tryz.underlying9 h0
 obtain ⟨op,rfl,_⟩:=shp_int Tryz.underlying3 h1
 obtain ⟨rows,rfl,hl,hr⟩:=shp_slice Tryz.underlying82 h2
 obtain ⟨ar,rfl,_⟩:=shp_ints Tryz.underlying3 hr
 obtain ⟨xa,xl,xc,xm,rfl,q1,q2⟩:=shp_Q h3
 obtain ⟨ya,yl,yc,ym,rfl,q3,q4⟩:=shp_Q h4
 obtain ⟨br,rfl,_⟩:=shp_int Tryz.underlying3 h5
 rw [irows_len] at hl
 unfold maxLen at hl
 exact ⟨⟨nm,op,ar,xa,xl,xc,xm,ya,yl,yc,ym,br⟩,rfl,⟨xa,xl,xc,xm,rfl,q1,q2⟩,⟨ya,yl,yc,ym,rfl,q3,q4⟩,by show (ar.length : Int) <= _; omega⟩
theorem rows_of {α : Type} {f : α -> List AV} {Q : α -> Prop} {S : List AV -> Prop} (hS : ∀ r,S r -> ∃ x,r = f x ∧ Q x) : ∀ {rows : List (List AV)},(∀ r ∈ rows,S r) -> ∃ l : List α,rows = l.map f ∧ ∀ x ∈ l,Q x
 | [],_ => ⟨[],rfl,fun _ h => by cases h⟩
 | r :: rows,h => by
  obtain ⟨l,rfl,hl⟩:=rows_of hS (rows:=rows) (fun q hq => h q (by simp [hq]))
  obtain ⟨x,rfl,hx⟩:=hS r (h r (by simp))
  refine ⟨x :: l,rfl,fun y hy => ?_⟩
  rcases List.mem_cons.1 hy with rfl | hy
  ·exact hx
  ·exact hl y hy
theorem shp_steps {k : Nat} {x : AV} (h : Shp Tryz.prog (k + 6) 40 [x]) : ∃ l : List Sp,x = stpv l ∧ ∀ s ∈ l,SpOk s:=by
 obtain ⟨rows,e,_,hr⟩:=shp_slice Tryz.underlying40 h
 injection e with e _
 subst e
 obtain ⟨l,rfl,hl⟩:=rows_of (f:=srow) (Q:=SpOk) (fun r hr => shp_step hr) hr
 exact ⟨l,rfl,hl⟩
theorem shp_move {k : Nat} {avs : List AV} (h : Shp Tryz.prog (k + 5) 72 avs) : ∃ m : Mv,avs = mrow m ∧ QD m.to:=by
 obtain ⟨x0,y0,rfl,h0,x1,y1,rfl,h1,x2,y2,rfl,h2,rfl⟩:=shp_struct Tryz.underlying72 h
 obtain ⟨st,rfl,_⟩:=shp_int Tryz.underlying3 h0
 obtain ⟨co,rfl,_⟩:=shp_int Tryz.underlying3 h1
 obtain ⟨ta,tl,tc,tm,rfl,q1,q2⟩:=shp_Q h2
 exact ⟨⟨st,co,ta,tl,tc,tm⟩,rfl,⟨ta,tl,tc,tm,rfl,q1,q2⟩⟩
theorem shp_drag {k : Nat} {avs : List AV} (h : Shp Tryz.prog (k + 7) 43 avs) : ∃ (p : Ps) (a b : List Mv),avs = [.sl p,mvv a,mvv b] ∧ QDs p ∧ (∀ m ∈ a,QD m.to) ∧ ∀ m ∈ b,QD m.to:=by
 obtain ⟨x0,y0,rfl,h0,x1,y1,rfl,h1,x2,y2,rfl,h2,rfl⟩:=shp_struct Tryz.underlying43 h
 obtain ⟨p,rfl,_,hp⟩:=shp_slice Tryz.underlying30 h0
 obtain ⟨ra,rfl,_,ha⟩:=shp_slice Tryz.underlying41 h1
 obtain ⟨rb,rfl,_,hb⟩:=shp_slice Tryz.underlying41 h2
 obtain ⟨a,rfl,ha2⟩:=rows_of (f:=mrow) (Q:=fun m => QD m.to) (fun r hr => shp_move hr) ha
 obtain ⟨b,rfl,hb2⟩:=rows_of (f:=mrow) (Q:=fun m => QD m.to) (fun r hr => shp_move hr) hb
 exact ⟨p,a,b,rfl,fun r hr => shp_Q (hp r hr),ha2,hb2⟩
end Ab
