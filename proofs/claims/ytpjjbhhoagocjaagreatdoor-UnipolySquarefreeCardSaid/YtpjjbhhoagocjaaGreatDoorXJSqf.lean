/- The law UnipolySquarefree of the given statements: for all lists of roots,all lists of powers and all integers,the statement's function answers true and leaves its arguments as they were. No condition beyond the given row's own (the listed package variables read as laid; the card ties them). -/
import Derived.Test.YtpjjbhhoagocjaaGreatDoorXClosed
import Derived.Test.YtpjjbhhoagocjaaGreatDoorXJoinB
namespace Go.Proofs.YtpjjbhhoagocjaaGreatDoor
open Go.ChangeShapes Go.WideShapes Go.ChangeAt Go.RowKit Ab
set_option maxRecDepth 100000 in
theorem unipolySquarefree_lifted (os : Os) (started : os.Started) (H : Type) (enc : TypeId × Value -> H) :
  ReturnsInHanded {} Tryz.checked os 8 .any (fun w args => (Rows.unipolySquarefreeSpec.pre enc Tryz.prog Tryz.f8 [] false w args ∧ laidMetH Tryz.prog laid3 w) ∧ sizedMet enc Tryz.prog Tryz.f8 (OpenSpec.ofChange Rows.unipolySquarefreeSpec) false w args)
   (Rows.unipolySquarefreeSpec.post enc Tryz.prog Tryz.f8 false true false false):=by
 refine returnsInHanded_of_change_and (C:=Tryz.checked) (X:=fun w _ => laidMetH Tryz.prog laid3 w) (fun _ _ _ hh h => h.of_heap hh) own started (by kernel_rfl) Tryz.func8
  (ChangeSpec.witness_shaped (enc:=enc) (C:=Tryz.checked) (os:=os) (X:=fun w _ => laidMetH Tryz.prog laid3 w) false (World.doorLaid Tryz.prog 400 os) #[.slice none 0 0,.slice none 0 0,.int .i64 0] 8 rfl (World.shaped_of_RefB (by kernel_rfl) (by kernel_rfl)) (by kernel_rfl) (by kernel_rfl) (by kernel_rfl) (door_met os _)) ?_
 intro W base args ds gs before hval0 hW _ _ _ _
 have hval : ∀ (j : Nat) t v,Tryz.f8.params[j]? = some t -> args[j]? = some v -> Value.okWide Tryz.prog W .any base t v:=hval0
 have hW':=hW
 have hlt:=hW.lt
 obtain ⟨p,q,hA0,hV,rfl,hfz,hnd⟩:=hW
 have hA : DataW.TrodAll enc Tryz.prog W 0 (fun _ => true) true Tryz.f8.params.toList args.toList ds p:=hA0
 have hback : ∀ W',Below W.heap.size W W' -> ∀ sp : Nat -> Bool,(∀ q ∈ p,sp q.block = true) -> DataW.TrodAll enc Tryz.prog W' 0 sp true Tryz.f8.params.toList args.toList ds p:=by
  intro W' hk sp hsp
  refine trodAll_back hk 8 ?_ hA (fun q hq => hlt q (List.mem_append.2 (.inl hq))) hsp
  rw [Tryz.params8]
  exact List.forall_mem_cons.2 ⟨by kernel_rfl,List.forall_mem_cons.2 ⟨by kernel_rfl,List.forall_mem_cons.2 ⟨by kernel_rfl,fun _ h => by cases h⟩⟩⟩
 rw [Tryz.params8] at hA hval
 obtain ⟨v0,vs0,d0,ds0,p0,q0,hargs,rfl,rfl,h0,r0⟩:=trodAll_cons hA
 obtain ⟨v1,vs1,d1,ds1,p1,q1,rfl,rfl,rfl,h1,r1⟩:=trodAll_cons r0
 obtain ⟨v2,vs2,d2,ds2,p2,q2,rfl,rfl,rfl,h2,r2⟩:=trodAll_cons r1
 obtain ⟨rfl,rfl,rfl⟩:=trodAll_nil r2
 obtain rfl : args = #[v0,v1,v2]:=by cases args; simp_all
 obtain ⟨rfl,rfl⟩:=trodVars_none hV
 obtain ⟨x0,s0,e0⟩:=arg_one (k:=8) (cells_slice Tryz.underlying22 (hval 0 22 v0 rfl rfl)) (by kernel_rfl) h0
 obtain ⟨l0,rfl,n0,b0⟩:=ints_shape s0
 obtain ⟨x1,s1,e1⟩:=arg_one (k:=8) (cells_slice Tryz.underlying56 (hval 1 56 v1 rfl rfl)) (by kernel_rfl) h1
 obtain ⟨l1,rfl,n1,b1⟩:=bytes_shape s1
 obtain ⟨a2,rfl,_,_,w2⟩:=open_int Tryz.underlying3 (hval 2 3 v2 rfl rfl) h2
 clear hA0 hval0
 have hg : GlOk W (fun b => b < W.heap.size) []:=fun g av hg => by cases hg
 refine (Ab.Does.calls ((sqf_law l0 n0 b0 l1 n1 b1 a2 w2) W _ [v0,v1,.int .i64 a2] (fun b hb => hb) hg (by
  unfold RepDL; exact ⟨_,_,rfl,e0,by
  unfold RepDL; exact ⟨_,_,rfl,e1,by
  unfold RepDL; exact ⟨_,_,rfl,by unfold RepD; rfl,by
  unfold RepDL; exact rfl⟩⟩⟩)) (by kernel_rfl)).mono fun e W' hh => ?_
 obtain ⟨v,rfl,hv,hb⟩:=hh
 unfold RepD at hv
 subst hv
 exact ⟨_,rfl,post_of_below (pv:=[]) hW' (fun _ _ _ => (trodAll_cons_mk (shut_bool Tryz.underlying4 _) trodAll_mk0)) (fun sp hsp => hback W' hb sp (fun q hq => hsp q (List.mem_append.2 (.inl hq)))) (fun _ _ => rfl) rfl
  hb (ok_one (by kernel_rfl) rfl (okWide_bool_mk Tryz.underlying4 _))⟩
theorem unipolySquarefree_fn : Tryz.pinned.checked.prog.funcNamed Rows.unipolySquarefreeRow.func = some 8:=by kernel_rfl
theorem unipolySquarefree_inPlace : Tryz.pinned.checked.prog.inPlace 8 = Rows.unipolySquarefreeRow.inPlace:=by kernel_rfl
theorem unipolySquarefree_unf : Tryz.pinned.checked.prog.unfollowed 8 = Rows.unipolySquarefreeRow.unfollowed:=by kernel_rfl
theorem unipolySquarefree_rec : Tryz.pinned.checked.prog.recurses 8 = Rows.unipolySquarefreeRow.recurses:=by kernel_rfl
theorem unipolySquarefree_named : Tryz.pinned.checked.prog.varsNamed 8 = Rows.unipolySquarefreeRow.named:=by kernel_rfl
theorem unipolySquarefree_goes : false = Rows.unipolySquarefreeRow.goesBy Tryz.pinned.checked.prog:=by kernel_rfl
theorem unipolySquarefree_closed : joinedFacts Tryz.pinned.checked.prog 8 Tryz.f8 Rows.unipolySquarefreeSpec Rows.unipolySquarefreeRow = true:=by
 unfold joinedFacts
 rw [cl_enter,cl_lifts,cl_make,cl_laid,cl_heard,cl_rowed,cl_keys,unipolySquarefree_inPlace,unipolySquarefree_unf,unipolySquarefree_rec,unipolySquarefree_named]
 kernel_rfl
theorem unipolySquarefree_wrap : Tryz.f8.isWrapper Tryz.pinned.checked.prog Rows.unipolySquarefreeRow.wrapper Rows.unipolySquarefreeRow.mainSum:=by unfold Func.isWrapper; first | (rw [if_pos (by decide +kernel)]; kernel_rfl) | (rw [if_neg (by decide +kernel)]; exact ⟨rfl,rfl⟩)
theorem unipolySquarefree_said : Rows.UnipolySquarefreeSaid :=
 OpenClaim.holds_of_wide 8 Tryz.f8 rfl rfl rfl rfl rfl rfl rfl ⟨rfl,rfl,rfl,rfl,rfl⟩ rfl rfl rfl rfl rfl unipolySquarefree_fn Tryz.func8 unipolySquarefree_closed
  (of_decide_eq_true (by kernel_rfl)) unipolySquarefree_wrap
  (fun os started H enc _ => unipolySquarefree_lifted os started H enc)
theorem unipolySquarefree_proved : Rows.UnipolySquarefreeCardSaid :=
 Claim7.holds_tied_plain_at .later [] [.data, .data, .data] true (true, "673d2eafa11b1bca90c8d65118d41838f54ad8c7960c1889da24e474b729317e") true
  unipolySquarefree_said (fun _ h => by cases h) (by kernel_rfl) (fun _ h => by cases h) unipolySquarefree_row_tie rfl ⟨rfl,rfl⟩ cl_main rfl
  (fun f fn hf hfn => by
   obtain rfl : f = 8:=(Option.some.inj (unipolySquarefree_fn.symm.trans hf)).symm
   obtain rfl : fn = Tryz.f8:=(Option.some.inj (Tryz.func8.symm.trans hfn)).symm
   exact ⟨cl_looks,fun j t ht => by
    rw [Tryz.params8] at ht
    rcases j with _ | _ | _ | j
    ·obtain rfl : t = 22:=by simpa using ht.symm
     kernel_rfl
    ·obtain rfl : t = 56:=by simpa using ht.symm
     kernel_rfl
    ·obtain rfl : t = 3:=by simpa using ht.symm
     kernel_rfl
    ·simp at ht⟩)
  unipolySquarefree_goes
end Go.Proofs.YtpjjbhhoagocjaaGreatDoor
