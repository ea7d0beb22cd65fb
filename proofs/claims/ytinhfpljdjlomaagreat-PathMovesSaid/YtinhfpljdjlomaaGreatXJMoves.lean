/- PathMoves: for all steps,positions and moves Move and Loop return what the reference returns: the law returns true. No condition. -/
import Derived.Test.YtinhfpljdjlomaaGreatXJoinZ
import Derived.Test.YtinhfpljdjlomaaGreatXMovesL
namespace Go.Proofs.YtinhfpljdjlomaaGreat
open Go.ChangeShapes Go.WideShapes Go.ChangeAt Go.RowKit Ab
set_option maxRecDepth 100000 in
theorem pathMoves_lifted (os : Os) (started : os.Started) (H : Type) (enc : TypeId × Value -> H) :
  ReturnsInHanded {} Tryz.checked os 5 .any (Rows.pathMovesSpec.pre6 enc Tryz.prog Tryz.f5 [] false) (Rows.pathMovesSpec.post enc Tryz.prog Tryz.f5 false true false false):=by
 refine returnsInHanded_of_change (C:=Tryz.checked) own started (by kernel_rfl) Tryz.func5
  (ChangeSpec.witness6 (enc:=enc) (C:=Tryz.checked) false ⟨#[],#[.slice none 0 0,.agg #[.slice none 0 0,.slice none 0 0,.slice none 0 0]],[]⟩ 8 (by kernel_rfl) (by kernel_rfl) (by kernel_rfl) (by kernel_rfl)) ?_
 intro W base args ds gs before hval0 hW _ _
 have hval : ∀ (j : Nat) t v,Tryz.f5.params[j]? = some t -> args[j]? = some v -> Value.okWide Tryz.prog W .any base t v:=hval0
 have hW':=hW
 have hlt:=hW.lt
 obtain ⟨p,q,hA0,hV,rfl,hfz,hnd⟩:=hW
 have hA : DataW.TrodAll enc Tryz.prog W 0 (fun _ => true) true Tryz.f5.params.toList args.toList ds p:=hA0
 have hback : ∀ W',Below W.heap.size W W' -> ∀ sp : Nat -> Bool,(∀ q ∈ p,sp q.block = true) -> DataW.TrodAll enc Tryz.prog W' 0 sp true Tryz.f5.params.toList args.toList ds p:=by
  intro W' hk sp hsp
  refine trodAll_back hk 8 ?_ hA (fun q hq => hlt q (List.mem_append.2 (.inl hq))) hsp
  rw [Tryz.params5]
  exact List.forall_mem_cons.2 ⟨by kernel_rfl,List.forall_mem_cons.2 ⟨by kernel_rfl,fun _ h => by cases h⟩⟩
 rw [Tryz.params5] at hA hval
 obtain ⟨v0,vs0,d0,ds0,p0,q0,hargs,rfl,rfl,h0,r0⟩:=trodAll_cons hA
 obtain ⟨v1,vs1,d1,ds1,p1,q1,rfl,rfl,rfl,h1,r1⟩:=trodAll_cons r0
 obtain ⟨rfl,rfl,rfl⟩:=trodAll_nil r1
 obtain rfl : args = #[v0,v1]:=by cases args; simp_all
 obtain ⟨rfl,rfl⟩:=trodVars_none hV
 obtain ⟨x0,s0,e0⟩:=arg_one (k:=8) (cells_slice Tryz.underlying40 (hval 0 40 v0 rfl rfl)) (by kernel_rfl) h0
 obtain ⟨x1,s1,e1⟩:=arg_struct (k:=8) Tryz.underlying43 (by kernel_rfl) (hval 1 43 v1 rfl rfl) h1
 obtain ⟨l0,rfl,hs0⟩:=shp_steps s0
 obtain ⟨p1,a1,b1,rfl,hp1,ha1,hb1⟩:=shp_drag s1
 clear hA0 hval0
 have hg : GlOk W (fun b => b < W.heap.size) []:=fun g av hg => by cases hg
 refine (Ab.Does.calls ((Ab.moves_law hs0 hp1 ha1 hb1) W _ [v0,v1] (fun b hb => hb) hg (by
  unfold RepDL; exact ⟨_,_,rfl,e0,by
  unfold RepDL; exact ⟨_,_,rfl,e1,by
  unfold RepDL; exact rfl⟩⟩)) (by kernel_rfl)).mono fun e W' hh => ?_
 obtain ⟨v,rfl,hv,hb⟩:=hh
 unfold RepD at hv
 subst hv
 exact ⟨_,rfl,post_of_below (pv:=[]) hW' (fun _ _ _ => (trodAll_cons_mk (shut_bool Tryz.underlying4 _) trodAll_mk0)) (fun sp hsp => hback W' hb sp (fun q hq => hsp q (List.mem_append.2 (.inl hq)))) (fun _ _ => rfl) rfl
  hb (ok_one (by kernel_rfl) rfl (okWide_bool_mk Tryz.underlying4 _))⟩
theorem pathMoves_proved : Rows.PathMovesSaid :=
 OpenClaim.holds_of_wide 5 Tryz.f5 rfl rfl rfl rfl rfl rfl rfl ⟨rfl,rfl,rfl,rfl,rfl⟩ rfl rfl rfl rfl rfl (by kernel_rfl) Tryz.func5 (by kernel_rfl)
  (of_decide_eq_true (by kernel_rfl)) (by unfold Func.isWrapper; first | (rw [if_pos (by decide +kernel)]; kernel_rfl) | (rw [if_neg (by decide +kernel)]; exact ⟨rfl,rfl⟩))
  (fun os started H enc _ => pathMoves_lifted os started H enc)
end Go.Proofs.YtinhfpljdjlomaaGreat
