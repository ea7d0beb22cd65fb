/- The law UnipolyOverIntegers of the given statements: for every list of integers and every integer,the statement's function answers true and leaves its arguments as they were. No condition beyond the given row's own (the listed package variables read as laid; the card ties them). -/
import Derived.Test.YtpjjbhhoagocjaaGreatDoorXClosed
import Derived.Test.YtpjjbhhoagocjaaGreatDoorXOver
namespace Go.Proofs.YtpjjbhhoagocjaaGreatDoor
open Go.ChangeShapes Go.WideShapes Go.ChangeAt Go.RowKit Ab
set_option maxRecDepth 100000 in
theorem unipolyOverIntegers_lifted (os : Os) (started : os.Started) (H : Type) (enc : TypeId × Value -> H) :
  ReturnsInHanded {} Tryz.checked os 5 .any (fun w args => (Rows.unipolyOverIntegersSpec.pre enc Tryz.prog Tryz.f5 [] false w args ∧ laidMetH Tryz.prog laid3 w) ∧ sizedMet enc Tryz.prog Tryz.f5 (OpenSpec.ofChange Rows.unipolyOverIntegersSpec) false w args)
   (Rows.unipolyOverIntegersSpec.post enc Tryz.prog Tryz.f5 false true false false):=by
 refine returnsInHanded_of_change_and (C:=Tryz.checked) (X:=fun w _ => laidMetH Tryz.prog laid3 w) (fun _ _ _ hh h => h.of_heap hh) own started (by kernel_rfl) Tryz.func5
  (ChangeSpec.witness_shaped (enc:=enc) (C:=Tryz.checked) (os:=os) (X:=fun w _ => laidMetH Tryz.prog laid3 w) false (World.doorLaid Tryz.prog 400 os) #[.slice none 0 0,.int .i64 0] 8 rfl (World.shaped_of_RefB (by kernel_rfl) (by kernel_rfl)) (by kernel_rfl) (by kernel_rfl) (by kernel_rfl) (door_met os _)) ?_
 intro W base args ds gs before hval0 hW _ _ _ _
 have hval : ∀ (j : Nat) t v,Tryz.f5.params[j]? = some t -> args[j]? = some v -> Value.okWide Tryz.prog W .any base t v:=hval0
 have hW':=hW
 have hlt:=hW.lt
 obtain ⟨p,q,hA0,hV,rfl,hfz,hnd⟩:=hW
 have hA : DataW.TrodAll enc Tryz.prog W 0 (fun _ => true) true Tryz.f5.params.toList args.toList ds p:=hA0
 have hback : ∀ W',Below W.heap.size W W' -> ∀ sp : Nat -> Bool,(∀ q ∈ p,sp q.block = true) -> DataW.TrodAll enc Tryz.prog W' 0 sp true Tryz.f5.params.toList args.toList ds p:=by
  intro W' hk sp hsp
  refine trodAll_back hk 8 ?_ hA (fun q hq => hlt q (List.mem_append.2 (.inl hq))) hsp
  rw [Tryz.params5]
  exact List.forall_mem_cons.2 ⟨by kernel_rfl,List.forall_mem_cons.2 ⟨by kernel_rfl,fun _ h => by cases h⟩⟩
 rw [Tryz.params5] at hA hval
 obtain ⟨v0,vs0,d0,ds0,p0,q0,hargs,rfl,rfl,h0,r0⟩:=trodAll_cons hA
 obtain ⟨v1,vs1,d1,ds1,p1,q1,rfl,rfl,rfl,h1,r1⟩:=trodAll_cons r0
 obtain ⟨rfl,rfl,rfl⟩:=trodAll_nil r1
 obtain rfl : args = #[v0,v1]:=by cases args; simp_all
 obtain ⟨rfl,rfl⟩:=trodVars_none hV
 obtain ⟨x0,s0,e0⟩:=arg_one (k:=8) (cells_slice Tryz.underlying22 (hval 0 22 v0 rfl rfl)) (by kernel_rfl) h0
 obtain ⟨l0,rfl,n0,b0⟩:=ints_shape s0
 obtain ⟨a1,rfl,_,_,w1⟩:=open_int Tryz.underlying3 (hval 1 3 v1 rfl rfl) h1
 clear hA0 hval0
 have hg : GlOk W (fun b => b < W.heap.size) []:=fun g av hg => by cases hg
 refine (Ab.Does.calls ((over_law l0 n0 b0 a1 w1) W _ [v0,.int .i64 a1] (fun b hb => hb) hg (by
  unfold RepDL; exact ⟨_,_,rfl,e0,by
  unfold RepDL; exact ⟨_,_,rfl,by unfold RepD; rfl,by
  unfold RepDL; exact rfl⟩⟩)) (by kernel_rfl)).mono fun e W' hh => ?_
 obtain ⟨v,rfl,hv,hb⟩:=hh
 unfold RepD at hv
 subst hv
 exact ⟨_,rfl,post_of_below (pv:=[]) hW' (fun _ _ _ => (trodAll_cons_mk (shut_bool Tryz.underlying4 _) trodAll_mk0)) (fun sp hsp => hback W' hb sp (fun q hq => hsp q (List.mem_append.2 (.inl hq)))) (fun _ _ => rfl) rfl
  hb (ok_one (by kernel_rfl) rfl (okWide_bool_mk Tryz.underlying4 _))⟩
theorem unipolyOverIntegers_fn : Tryz.pinned.checked.prog.funcNamed Rows.unipolyOverIntegersRow.func = some 5:=by kernel_rfl
theorem unipolyOverIntegers_inPlace : Tryz.pinned.checked.prog.inPlace 5 = Rows.unipolyOverIntegersRow.inPlace:=by kernel_rfl
theorem unipolyOverIntegers_unf : Tryz.pinned.checked.prog.unfollowed 5 = Rows.unipolyOverIntegersRow.unfollowed:=by kernel_rfl
theorem unipolyOverIntegers_rec : Tryz.pinned.checked.prog.recurses 5 = Rows.unipolyOverIntegersRow.recurses:=by kernel_rfl
theorem unipolyOverIntegers_named : Tryz.pinned.checked.prog.varsNamed 5 = Rows.unipolyOverIntegersRow.named:=by kernel_rfl
theorem unipolyOverIntegers_goes : false = Rows.unipolyOverIntegersRow.goesBy Tryz.pinned.checked.prog:=by kernel_rfl
theorem unipolyOverIntegers_closed : joinedFacts Tryz.pinned.checked.prog 5 Tryz.f5 Rows.unipolyOverIntegersSpec Rows.unipolyOverIntegersRow = true:=by
 unfold joinedFacts
 rw [cl_enter,cl_lifts,cl_make,cl_laid,cl_heard,cl_rowed,cl_keys,unipolyOverIntegers_inPlace,unipolyOverIntegers_unf,unipolyOverIntegers_rec,unipolyOverIntegers_named]
 kernel_rfl
theorem unipolyOverIntegers_wrap : Tryz.f5.isWrapper Tryz.pinned.checked.prog Rows.unipolyOverIntegersRow.wrapper Rows.unipolyOverIntegersRow.mainSum:=by unfold Func.isWrapper; first | (rw [if_pos (by decide +kernel)]; kernel_rfl) | (rw [if_neg (by decide +kernel)]; exact ⟨rfl,rfl⟩)
theorem unipolyOverIntegers_said : Rows.UnipolyOverIntegersSaid :=
 OpenClaim.holds_of_wide 5 Tryz.f5 rfl rfl rfl rfl rfl rfl rfl ⟨rfl,rfl,rfl,rfl,rfl⟩ rfl rfl rfl rfl rfl unipolyOverIntegers_fn Tryz.func5 unipolyOverIntegers_closed
  (of_decide_eq_true (by kernel_rfl)) unipolyOverIntegers_wrap
  (fun os started H enc _ => unipolyOverIntegers_lifted os started H enc)
theorem unipolyOverIntegers_proved : Rows.UnipolyOverIntegersCardSaid :=
 Claim7.holds_tied_plain_at .later [] [.data, .data, .data] true (true, "673d2eafa11b1bca90c8d65118d41838f54ad8c7960c1889da24e474b729317e") true
  unipolyOverIntegers_said (fun _ h => by cases h) (by kernel_rfl) (fun _ h => by cases h) unipolyOverIntegers_row_tie rfl ⟨rfl,rfl⟩ cl_main rfl
  (fun f fn hf hfn => by
   obtain rfl : f = 5:=(Option.some.inj (unipolyOverIntegers_fn.symm.trans hf)).symm
   obtain rfl : fn = Tryz.f5:=(Option.some.inj (Tryz.func5.symm.trans hfn)).symm
   exact ⟨cl_looks,fun j t ht => by
    rw [Tryz.params5] at ht
    rcases j with _ | _ | j
    ·obtain rfl : t = 22:=by simpa using ht.symm
     kernel_rfl
    ·obtain rfl : t = 3:=by simpa using ht.symm
     kernel_rfl
    ·simp at ht⟩)
  unipolyOverIntegers_goes
end Go.Proofs.YtpjjbhhoagocjaaGreatDoor
