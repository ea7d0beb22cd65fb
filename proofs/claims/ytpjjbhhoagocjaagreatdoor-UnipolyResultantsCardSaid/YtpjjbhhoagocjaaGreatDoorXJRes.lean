/- The law UnipolyResultants of the given statements: for all five lists of integers,the statement's function answers true and leaves its arguments as they were. No condition beyond the given row's own (the listed package variables read as laid; the card ties them). -/
import Derived.Test.YtpjjbhhoagocjaaGreatDoorXClosed
import Derived.Test.YtpjjbhhoagocjaaGreatDoorXGuh
namespace Go.Proofs.YtpjjbhhoagocjaaGreatDoor
open Go.ChangeShapes Go.WideShapes Go.ChangeAt Go.RowKit Ab
set_option maxRecDepth 100000 in
theorem unipolyResultants_lifted (os : Os) (started : os.Started) (H : Type) (enc : TypeId × Value -> H) :
  ReturnsInHanded {} Tryz.checked os 4 .any (fun w args => (Rows.unipolyResultantsSpec.pre enc Tryz.prog Tryz.f4 [] false w args∧laidMetH Tryz.prog laid3 w)∧sizedMet enc Tryz.prog Tryz.f4 (OpenSpec.ofChange Rows.unipolyResultantsSpec) false w args)
   (Rows.unipolyResultantsSpec.post enc Tryz.prog Tryz.f4 false true false false):=by
 refine returnsInHanded_of_change_and (C:=Tryz.checked) (X:=fun w _ => laidMetH Tryz.prog laid3 w) (fun _ _ _ hh h => h.of_heap hh) own started (by kernel_rfl) Tryz.func4
  (ChangeSpec.witness_shaped (enc:=enc) (C:=Tryz.checked) (os:=os) (X:=fun w _ => laidMetH Tryz.prog laid3 w) false (World.doorLaid Tryz.prog 400 os) #[.slice none 0 0,.slice none 0 0,.slice none 0 0,.slice none 0 0,.slice none 0 0] 8 rfl (World.shaped_of_RefB (by kernel_rfl) (by kernel_rfl)) (by kernel_rfl) (by kernel_rfl) (by kernel_rfl) (door_met os _)) ?_
 intro W base args ds gs before hval0 hW _ _ _ _
 have hval : ∀ (j : Nat) t v,Tryz.f4.params[j]? = some t -> args[j]? = some v -> Value.okWide Tryz.prog W .any base t v:=hval0
 have hW':=hW
 have hlt:=hW.lt
 obtain ⟨p,q,hA0,hV,rfl,hfz,hnd⟩:=hW
 have hA : DataW.TrodAll enc Tryz.prog W 0 (fun _ => true) true Tryz.f4.params.toList args.toList ds p:=hA0
 have hback : ∀ W',Below W.heap.size W W' -> ∀ sp : Nat -> Bool,(∀ q ∈ p,sp q.block = true) -> DataW.TrodAll enc Tryz.prog W' 0 sp true Tryz.f4.params.toList args.toList ds p:=by
  intro W' hk sp hsp
  refine trodAll_back hk 8 ?_ hA (fun q hq => hlt q (List.mem_append.2 (.inl hq))) hsp
  rw [Tryz.params4]
  exact List.forall_mem_cons.2 ⟨by kernel_rfl,List.forall_mem_cons.2 ⟨by kernel_rfl,List.forall_mem_cons.2 ⟨by kernel_rfl,List.forall_mem_cons.2 ⟨by kernel_rfl,List.forall_mem_cons.2 ⟨by kernel_rfl,fun _ h => by cases h⟩⟩⟩⟩⟩
 rw [Tryz.params4] at hA hval
 obtain ⟨v0,vs0,d0,ds0,p0,q0,hargs,rfl,rfl,h0,r0⟩:=trodAll_cons hA
 obtain ⟨v1,vs1,d1,ds1,p1,q1,rfl,rfl,rfl,h1,r1⟩:=trodAll_cons r0
 obtain ⟨v2,vs2,d2,ds2,p2,q2,rfl,rfl,rfl,h2,r2⟩:=trodAll_cons r1
 obtain ⟨v3,vs3,d3,ds3,p3,q3,rfl,rfl,rfl,h3,r3⟩:=trodAll_cons r2
 obtain ⟨v4,vs4,d4,ds4,p4,q4,rfl,rfl,rfl,h4,r4⟩:=trodAll_cons r3
 obtain ⟨rfl,rfl,rfl⟩:=trodAll_nil r4
 obtain rfl : args = #[v0,v1,v2,v3,v4]:=by cases args; simp_all
 obtain ⟨rfl,rfl⟩:=trodVars_none hV
 obtain ⟨x0,s0,e0⟩:=arg_one (k:=8) (cells_slice Tryz.underlying22 (hval 0 22 v0 rfl rfl)) (by kernel_rfl) h0
 obtain ⟨l0,rfl,n0,b0⟩:=ints_shape s0
 obtain ⟨x1,s1,e1⟩:=arg_one (k:=8) (cells_slice Tryz.underlying22 (hval 1 22 v1 rfl rfl)) (by kernel_rfl) h1
 obtain ⟨l1,rfl,n1,b1⟩:=ints_shape s1
 obtain ⟨x2,s2,e2⟩:=arg_one (k:=8) (cells_slice Tryz.underlying22 (hval 2 22 v2 rfl rfl)) (by kernel_rfl) h2
 obtain ⟨l2,rfl,n2,b2⟩:=ints_shape s2
 obtain ⟨x3,s3,e3⟩:=arg_one (k:=8) (cells_slice Tryz.underlying22 (hval 3 22 v3 rfl rfl)) (by kernel_rfl) h3
 obtain ⟨l3,rfl,n3,b3⟩:=ints_shape s3
 obtain ⟨x4,s4,e4⟩:=arg_one (k:=8) (cells_slice Tryz.underlying22 (hval 4 22 v4 rfl rfl)) (by kernel_rfl) h4
 obtain ⟨l4,rfl,n4,b4⟩:=ints_shape s4
 clear hA0 hval0
 have hg : GlOk W (fun b => b < W.heap.size) []:=fun g av hg => by cases hg
 refine (Ab.Does.calls ((res_law l0 n0 b0 l1 n1 b1 l2 n2 b2 l3 n3 b3 l4 n4 b4) W _ [v0,v1,v2,v3,v4] (fun b hb => hb) hg (by
  unfold RepDL; exact ⟨_,_,rfl,e0,by
  unfold RepDL; exact ⟨_,_,rfl,e1,by
  unfold RepDL; exact ⟨_,_,rfl,e2,by
  unfold RepDL; exact ⟨_,_,rfl,e3,by
  unfold RepDL; exact ⟨_,_,rfl,e4,by
  unfold RepDL; exact rfl⟩⟩⟩⟩⟩)) (by kernel_rfl)).mono fun e W' hh => ?_
 obtain ⟨v,rfl,hv,hb⟩:=hh
 unfold RepD at hv
 subst hv
 exact ⟨_,rfl,post_of_below (pv:=[]) hW' (fun _ _ _ => (trodAll_cons_mk (shut_bool Tryz.underlying4 _) trodAll_mk0)) (fun sp hsp => hback W' hb sp (fun q hq => hsp q (List.mem_append.2 (.inl hq)))) (fun _ _ => rfl) rfl
  hb (ok_one (by kernel_rfl) rfl (okWide_bool_mk Tryz.underlying4 _))⟩
theorem unipolyResultants_fn : Tryz.pinned.checked.prog.funcNamed Rows.unipolyResultantsRow.func = some 4:=by kernel_rfl
theorem unipolyResultants_inPlace : Tryz.pinned.checked.prog.inPlace 4 = Rows.unipolyResultantsRow.inPlace:=by kernel_rfl
theorem unipolyResultants_unf : Tryz.pinned.checked.prog.unfollowed 4 = Rows.unipolyResultantsRow.unfollowed:=by kernel_rfl
theorem unipolyResultants_rec : Tryz.pinned.checked.prog.recurses 4 = Rows.unipolyResultantsRow.recurses:=by kernel_rfl
theorem unipolyResultants_named : Tryz.pinned.checked.prog.varsNamed 4 = Rows.unipolyResultantsRow.named:=by kernel_rfl
theorem unipolyResultants_goes : false = Rows.unipolyResultantsRow.goesBy Tryz.pinned.checked.prog:=by kernel_rfl
theorem unipolyResultants_closed : joinedFacts Tryz.pinned.checked.prog 4 Tryz.f4 Rows.unipolyResultantsSpec Rows.unipolyResultantsRow = true:=by
 unfold joinedFacts
 rw [cl_enter,cl_lifts,cl_make,cl_laid,cl_heard,cl_rowed,cl_keys,unipolyResultants_inPlace,unipolyResultants_unf,unipolyResultants_rec,unipolyResultants_named]
 kernel_rfl
theorem unipolyResultants_wrap : Tryz.f4.isWrapper Tryz.pinned.checked.prog Rows.unipolyResultantsRow.wrapper Rows.unipolyResultantsRow.mainSum:=by unfold Func.isWrapper; first | (rw [if_pos (by decide +kernel)]; kernel_rfl) | (rw [if_neg (by decide +kernel)]; exact ⟨rfl,rfl⟩)
theorem unipolyResultants_said : Rows.UnipolyResultantsSaid :=
 OpenClaim.holds_of_wide 4 Tryz.f4 rfl rfl rfl rfl rfl rfl rfl ⟨rfl,rfl,rfl,rfl,rfl⟩ rfl rfl rfl rfl rfl unipolyResultants_fn Tryz.func4 unipolyResultants_closed
  (of_decide_eq_true (by kernel_rfl)) unipolyResultants_wrap
  (fun os started H enc _ => unipolyResultants_lifted os started H enc)
theorem unipolyResultants_proved : Rows.UnipolyResultantsCardSaid :=
 Claim7.holds_tied_plain_at .later [] [.data, .data, .data] true (true, "673d2eafa11b1bca90c8d65118d41838f54ad8c7960c1889da24e474b729317e") true
  unipolyResultants_said (fun _ h => by cases h) (by kernel_rfl) (fun _ h => by cases h) unipolyResultants_row_tie rfl ⟨rfl,rfl⟩ cl_main rfl
  (fun f fn hf hfn => by
   obtain rfl : f = 4:=(Option.some.inj (unipolyResultants_fn.symm.trans hf)).symm
   obtain rfl : fn = Tryz.f4:=(Option.some.inj (Tryz.func4.symm.trans hfn)).symm
   exact ⟨cl_looks,fun j t ht => by
    rw [Tryz.params4] at ht
    rcases j with _ | _ | _ | _ | _ | j
    ·obtain rfl : t = 22:=by simpa using ht.symm
     kernel_rfl
    ·obtain rfl : t = 22:=by simpa using ht.symm
     kernel_rfl
    ·obtain rfl : t = 22:=by simpa using ht.symm
     kernel_rfl
    ·obtain rfl : t = 22:=by simpa using ht.symm
     kernel_rfl
    ·obtain rfl : t = 22:=by simpa using ht.symm
     kernel_rfl
    ·simp at ht⟩)
  unipolyResultants_goes
end Go.Proofs.YtpjjbhhoagocjaaGreatDoor
