/- PathCorners: for all corners and numbers of inputs, Check, Reverse, Join and Closed return what the reference returns: the law returns true. No condition. -/
import Derived.Test.YtinhfpljdjlomaaGreatXJoinZ
import Derived.Test.YtinhfpljdjlomaaGreatXCorners
/-!
PathCorners: from the contract of the law's function to the given statement. Its arguments are plain data.
-/
namespace Go.Proofs.YtinhfpljdjlomaaGreat
open Go.ChangeShapes Go.WideShapes Go.ChangeAt Go.RowKit Ab

set_option maxRecDepth 100000 in
theorem pathCorners_lifted (os : Os) (started : os.Started) (H : Type) (enc : TypeId × Value → H) :
    ReturnsInHanded {} Tryz.checked os 6 .any (Rows.pathCornersSpec.pre6 enc Tryz.prog Tryz.f6 [] false) (Rows.pathCornersSpec.post enc Tryz.prog Tryz.f6 false true false false) := by
  refine returnsInHanded_of_change (C := Tryz.checked) own started (by kernel_rfl) Tryz.func6
    (ChangeSpec.witness6 (enc := enc) (C := Tryz.checked) false ⟨#[], #[.slice none 0 0, .slice none 0 0, .int .i64 0], []⟩ 8 (by kernel_rfl) (by kernel_rfl) (by kernel_rfl) (by kernel_rfl)) ?_
  intro W base args ds gs before hval0 hW _ _
  have hval : ∀ (j : Nat) t v, Tryz.f6.params[j]? = some t → args[j]? = some v → Value.okWide Tryz.prog W .any base t v := hval0
  have hW' := hW
  have hlt := hW.lt
  obtain ⟨p, q, hA0, hV, rfl, hfz, hnd⟩ := hW
  have hA : DataW.TrodAll enc Tryz.prog W 0 (fun _ => true) true Tryz.f6.params.toList args.toList ds p := hA0
  have hback : ∀ W', Below W.heap.size W W' → ∀ sp : Nat → Bool, (∀ q ∈ p, sp q.block = true) → DataW.TrodAll enc Tryz.prog W' 0 sp true Tryz.f6.params.toList args.toList ds p := by
    intro W' hk sp hsp
    refine trodAll_back hk 8 ?_ hA (fun q hq => hlt q (List.mem_append.2 (.inl hq))) hsp
    rw [Tryz.params6]
    exact List.forall_mem_cons.2 ⟨by kernel_rfl, List.forall_mem_cons.2 ⟨by kernel_rfl, List.forall_mem_cons.2 ⟨by kernel_rfl, fun _ h => by cases h⟩⟩⟩
  rw [Tryz.params6] at hA hval
  obtain ⟨v0, vs0, d0, ds0, p0, q0, hargs, rfl, rfl, h0, r0⟩ := trodAll_cons hA
  obtain ⟨v1, vs1, d1, ds1, p1, q1, rfl, rfl, rfl, h1, r1⟩ := trodAll_cons r0
  obtain ⟨v2, vs2, d2, ds2, p2, q2, rfl, rfl, rfl, h2, r2⟩ := trodAll_cons r1
  obtain ⟨rfl, rfl, rfl⟩ := trodAll_nil r2
  obtain rfl : args = #[v0, v1, v2] := by cases args; simp_all
  obtain ⟨rfl, rfl⟩ := trodVars_none hV
  obtain ⟨x0, s0, e0⟩ := arg_one (k := 8) (cells_slice Tryz.underlying44 (hval 0 44 v0 rfl rfl)) (by kernel_rfl) h0
  obtain ⟨x1, s1, e1⟩ := arg_one (k := 8) (cells_slice Tryz.underlying44 (hval 1 44 v1 rfl rfl)) (by kernel_rfl) h1
  obtain ⟨a2, rfl, _, _, w2⟩ := open_int Tryz.underlying3 (hval 2 3 v2 rfl rfl) h2
  obtain ⟨c0, rfl, hc0, l0⟩ := shp_paths s0
  obtain ⟨c1, rfl, hc1, l1⟩ := shp_paths s1
  clear hA0 hval0
  have hg : GlOk W (fun b => b < W.heap.size) [] := fun g av hg => by cases hg
  refine (Ab.Does.calls ((Ab.corners_law hc0 hc1 l0 l1) W _ [v0, v1, .int .i64 a2] (fun b hb => hb) hg (by
    unfold RepDL; exact ⟨_, _, rfl, e0, by
    unfold RepDL; exact ⟨_, _, rfl, e1, by
    unfold RepDL; exact ⟨_, _, rfl, by unfold RepD; rfl, by
    unfold RepDL; exact rfl⟩⟩⟩)) (by kernel_rfl)).mono fun e W' hh => ?_
  obtain ⟨v, rfl, hv, hb⟩ := hh
  unfold RepD at hv
  subst hv
  exact ⟨_, rfl, post_of_below (pv := []) hW' (fun _ _ _ => (trodAll_cons_mk (shut_bool Tryz.underlying4 _) trodAll_mk0)) (fun sp hsp => hback W' hb sp (fun q hq => hsp q (List.mem_append.2 (.inl hq)))) (fun _ _ => rfl) rfl
    hb (ok_one (by kernel_rfl) rfl (okWide_bool_mk Tryz.underlying4 _))⟩

theorem pathCorners_proved : Rows.PathCornersSaid :=
  OpenClaim.holds_of_wide 6 Tryz.f6 rfl rfl rfl rfl rfl rfl rfl ⟨rfl, rfl, rfl, rfl, rfl⟩ rfl rfl rfl rfl rfl (by kernel_rfl) Tryz.func6 (by kernel_rfl)
    (of_decide_eq_true (by kernel_rfl)) (by unfold Func.isWrapper; first | (rw [if_pos (by decide +kernel)]; kernel_rfl) | (rw [if_neg (by decide +kernel)]; exact ⟨rfl, rfl⟩))
    (fun os started H enc _ => pathCorners_lifted os started H enc)
end Go.Proofs.YtinhfpljdjlomaaGreat
