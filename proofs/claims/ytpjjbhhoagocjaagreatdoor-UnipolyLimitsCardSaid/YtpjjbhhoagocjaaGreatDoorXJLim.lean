/- The law UnipolyLimits of the given statements: for all three integers,the statement's function answers true. No condition beyond the given row's own (the listed package variables read as laid; the card ties them). -/
import Derived.Test.YtpjjbhhoagocjaaGreatDoorXClosed
import Derived.Test.YtpjjbhhoagocjaaGreatDoorXLim
namespace Go.Proofs.YtpjjbhhoagocjaaGreatDoor
open Go.ChangeShapes Go.WideShapes Go.ChangeAt Go.RowKit Ab
set_option maxRecDepth 100000 in
theorem unipolyLimits_lifted (os : Os) (started : os.Started) (H : Type) (enc : TypeId × Value -> H) :
  ReturnsInHanded {} Tryz.checked os 7 .any (fun w args => (Rows.unipolyLimitsSpec.pre enc Tryz.prog Tryz.f7 [] false w args∧laidMetH Tryz.prog laid3 w)∧sizedMet enc Tryz.prog Tryz.f7 (OpenSpec.ofChange Rows.unipolyLimitsSpec) false w args)
   (Rows.unipolyLimitsSpec.post enc Tryz.prog Tryz.f7 false true false false):=by
 refine returnsInHanded_of_change_and (C:=Tryz.checked) (X:=fun w _ => laidMetH Tryz.prog laid3 w) (fun _ _ _ hh h => h.of_heap hh) own started (by kernel_rfl) Tryz.func7
  (ChangeSpec.witness_shaped (enc:=enc) (C:=Tryz.checked) (os:=os) (X:=fun w _ => laidMetH Tryz.prog laid3 w) false (World.doorLaid Tryz.prog 400 os) #[.int .i64 0,.int .i64 0,.int .i64 0] 8 rfl (World.shaped_of_RefB (by kernel_rfl) (by kernel_rfl)) (by kernel_rfl) (by kernel_rfl) (by kernel_rfl) (door_met os _)) ?_
 intro W base args ds gs before hval0 hW _ _ _ _
 have hval : ∀ (j : Nat) t v,Tryz.f7.params[j]? = some t -> args[j]? = some v -> Value.okWide Tryz.prog W .any base t v:=hval0
 have hW':=hW
 have hlt:=hW.lt
 obtain ⟨p,q,hA0,hV,rfl,hfz,hnd⟩:=hW
 have hA : DataW.TrodAll enc Tryz.prog W 0 (fun _ => true) true Tryz.f7.params.toList args.toList ds p:=hA0
 have hback : ∀ W',Below W.heap.size W W' -> ∀ sp : Nat -> Bool,(∀ q ∈ p,sp q.block = true) -> DataW.TrodAll enc Tryz.prog W' 0 sp true Tryz.f7.params.toList args.toList ds p:=by
  intro W' hk sp hsp
  refine trodAll_back hk 8 ?_ hA (fun q hq => hlt q (List.mem_append.2 (.inl hq))) hsp
  rw [Tryz.params7]
  exact List.forall_mem_cons.2 ⟨by kernel_rfl,List.forall_mem_cons.2 ⟨by kernel_rfl,List.forall_mem_cons.2 ⟨by kernel_rfl,fun _ h => by cases h⟩⟩⟩
 rw [Tryz.params7] at hA hval
 obtain ⟨v0,vs0,d0,ds0,p0,q0,hargs,rfl,rfl,h0,r0⟩:=trodAll_cons hA
 obtain ⟨v1,vs1,d1,ds1,p1,q1,rfl,rfl,rfl,h1,r1⟩:=trodAll_cons r0
 obtain ⟨v2,vs2,d2,ds2,p2,q2,rfl,rfl,rfl,h2,r2⟩:=trodAll_cons r1
 obtain ⟨rfl,rfl,rfl⟩:=trodAll_nil r2
 obtain rfl : args = #[v0,v1,v2]:=by cases args; simp_all
 obtain ⟨rfl,rfl⟩:=trodVars_none hV
 obtain ⟨a0,rfl,_,_,w0⟩:=open_int Tryz.underlying3 (hval 0 3 v0 rfl rfl) h0
 obtain ⟨a1,rfl,_,_,w1⟩:=open_int Tryz.underlying3 (hval 1 3 v1 rfl rfl) h1
 obtain ⟨a2,rfl,_,_,w2⟩:=open_int Tryz.underlying3 (hval 2 3 v2 rfl rfl) h2
 clear hA0 hval0
 have hg : GlOk W (fun b => b < W.heap.size) []:=fun g av hg => by cases hg
 refine (Ab.Does.calls ((limits_law a0 w0 a1 w1 a2 w2) W _ [.int .i64 a0,.int .i64 a1,.int .i64 a2] (fun b hb => hb) hg (by
  unfold RepDL; exact ⟨_,_,rfl,by unfold RepD; rfl,by
  unfold RepDL; exact ⟨_,_,rfl,by unfold RepD; rfl,by
  unfold RepDL; exact ⟨_,_,rfl,by unfold RepD; rfl,by
  unfold RepDL; exact rfl⟩⟩⟩)) (by kernel_rfl)).mono fun e W' hh => ?_
 obtain ⟨v,rfl,hv,hb⟩:=hh
 unfold RepD at hv
 subst hv
 exact ⟨_,rfl,post_of_below (pv:=[]) hW' (fun _ _ _ => (trodAll_cons_mk (shut_bool Tryz.underlying4 _) trodAll_mk0)) (fun sp hsp => hback W' hb sp (fun q hq => hsp q (List.mem_append.2 (.inl hq)))) (fun _ _ => rfl) rfl
  hb (ok_one (by kernel_rfl) rfl (okWide_bool_mk Tryz.underlying4 _))⟩
theorem unipolyLimits_fn : Tryz.pinned.checked.prog.funcNamed Rows.unipolyLimitsRow.func = some 7:=by kernel_rfl
theorem unipolyLimits_inPlace : Tryz.pinned.checked.prog.inPlace 7 = Rows.unipolyLimitsRow.inPlace:=by kernel_rfl
theorem unipolyLimits_unf : Tryz.pinned.checked.prog.unfollowed 7 = Rows.unipolyLimitsRow.unfollowed:=by kernel_rfl
theorem unipolyLimits_rec : Tryz.pinned.checked.prog.recurses 7 = Rows.unipolyLimitsRow.recurses:=by kernel_rfl
theorem unipolyLimits_named : Tryz.pinned.checked.prog.varsNamed 7 = Rows.unipolyLimitsRow.named:=by kernel_rfl
theorem unipolyLimits_goes : false = Rows.unipolyLimitsRow.goesBy Tryz.pinned.checked.prog:=by kernel_rfl
theorem unipolyLimits_closed : joinedFacts Tryz.pinned.checked.prog 7 Tryz.f7 Rows.unipolyLimitsSpec Rows.unipolyLimitsRow = true:=by
 unfold joinedFacts
 rw [cl_enter,cl_lifts,cl_make,cl_laid,cl_heard,cl_rowed,cl_keys,unipolyLimits_inPlace,unipolyLimits_unf,unipolyLimits_rec,unipolyLimits_named]
 kernel_rfl
theorem unipolyLimits_wrap : Tryz.f7.isWrapper Tryz.pinned.checked.prog Rows.unipolyLimitsRow.wrapper Rows.unipolyLimitsRow.mainSum:=by unfold Func.isWrapper; first | (rw [if_pos (by decide +kernel)]; kernel_rfl) | (rw [if_neg (by decide +kernel)]; exact ⟨rfl,rfl⟩)
theorem unipolyLimits_said : Rows.UnipolyLimitsSaid :=
 OpenClaim.holds_of_wide 7 Tryz.f7 rfl rfl rfl rfl rfl rfl rfl ⟨rfl,rfl,rfl,rfl,rfl⟩ rfl rfl rfl rfl rfl unipolyLimits_fn Tryz.func7 unipolyLimits_closed
  (of_decide_eq_true (by kernel_rfl)) unipolyLimits_wrap
  (fun os started H enc _ => unipolyLimits_lifted os started H enc)
theorem unipolyLimits_proved : Rows.UnipolyLimitsCardSaid :=
 Claim7.holds_tied_plain_at .later [] [.data, .data, .data] true (true, "673d2eafa11b1bca90c8d65118d41838f54ad8c7960c1889da24e474b729317e") true
  unipolyLimits_said (fun _ h => by cases h) (by kernel_rfl) (fun _ h => by cases h) unipolyLimits_row_tie rfl ⟨rfl,rfl⟩ cl_main rfl
  (fun f fn hf hfn => by
   obtain rfl : f = 7:=(Option.some.inj (unipolyLimits_fn.symm.trans hf)).symm
   obtain rfl : fn = Tryz.f7:=(Option.some.inj (Tryz.func7.symm.trans hfn)).symm
   exact ⟨cl_looks,fun j t ht => by
    rw [Tryz.params7] at ht
    rcases j with _ | _ | _ | j
    ·obtain rfl : t = 3:=by simpa using ht.symm
     kernel_rfl
    ·obtain rfl : t = 3:=by simpa using ht.symm
     kernel_rfl
    ·obtain rfl : t = 3:=by simpa using ht.symm
     kernel_rfl
    ·simp at ht⟩)
  unipolyLimits_goes
end Go.Proofs.YtpjjbhhoagocjaaGreatDoor
