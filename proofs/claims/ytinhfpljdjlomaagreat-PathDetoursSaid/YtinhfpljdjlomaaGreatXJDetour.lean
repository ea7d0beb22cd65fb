/- PathDetours: for all inputs, Detour returns the corners that the chapter defines, and the detour -n is the conjugate of the detour n: the law returns true. No condition. -/
import Derived.Test.YtinhfpljdjlomaaGreatXJoinZ
import Derived.Test.YtinhfpljdjlomaaGreatXDetour
/-!
PathDetours: from the contract of the law's function to the given statement.
-/
namespace Go.Proofs.YtinhfpljdjlomaaGreat
open Go.ChangeShapes Go.WideShapes Go.ChangeAt Go.RowKit Ab

set_option maxRecDepth 100000 in
theorem pathDetours_lifted (hspec : ∀ a0 : Int, (Lit.int .i64 a0).wf = true → Ab.Spec Tryz.prog [] 3 [.int .i64 a0] (.bool true)) (os : Os) (started : os.Started) (H : Type) (enc : TypeId × Value → H) :
    ReturnsInHanded {} Tryz.checked os 3 .any (Rows.pathDetoursSpec.pre6 enc Tryz.prog Tryz.f3 [] false) (Rows.pathDetoursSpec.post enc Tryz.prog Tryz.f3 false true false false) := by
  refine returnsInHanded_of_change (C := Tryz.checked) own started (by kernel_rfl) Tryz.func3
    (ChangeSpec.witness6 (enc := enc) (C := Tryz.checked) false ⟨#[], #[.int .i64 0], []⟩ 8 (by kernel_rfl) (by kernel_rfl) (by kernel_rfl) (by kernel_rfl)) ?_
  intro W base args ds gs before hval0 hW _ _
  have hval : ∀ (j : Nat) t v, Tryz.f3.params[j]? = some t → args[j]? = some v → Value.okWide Tryz.prog W .any base t v := hval0
  have hW' := hW
  obtain ⟨p, q, hA0, hV, rfl, hfz, hnd⟩ := hW
  have hA : DataW.TrodAll enc Tryz.prog W 0 (fun _ => true) true Tryz.f3.params.toList args.toList ds p := hA0
  rw [Tryz.params3] at hA hval
  obtain ⟨v0, vs0, d0, ds0, p0, q0, hargs, rfl, rfl, h0, r0⟩ := trodAll_cons hA
  obtain ⟨rfl, rfl, rfl⟩ := trodAll_nil r0
  obtain rfl : args = #[v0] := by cases args; simp_all
  obtain ⟨rfl, rfl⟩ := trodVars_none hV
  obtain ⟨a0, rfl, rfl, rfl, w0⟩ := open_int Tryz.underlying3 (hval 0 3 v0 rfl rfl) h0
  clear hA0 hval0
  simp only [List.append_nil] at hW'
  have hg : GlOk W (fun b => b < W.heap.size) [] := fun g av hg => by cases hg
  refine (Ab.Does.calls ((hspec a0 w0) W _ [.int .i64 a0] (fun b hb => hb) hg (by
    unfold RepDL; exact ⟨_, _, rfl, by unfold RepD; rfl, by
    unfold RepDL; exact rfl⟩)) (by kernel_rfl)).mono fun e W' hh => ?_
  obtain ⟨v, rfl, hv, hb⟩ := hh
  unfold RepD at hv
  subst hv
  exact ⟨_, rfl, post_of_below (pa := []) (pv := []) hW' (fun _ _ _ => (trodAll_cons_mk (shut_bool Tryz.underlying4 _) trodAll_mk0)) (fun sp _ => (trodAll_cons_mk (shut_int Tryz.underlying3 w0) trodAll_mk0)) (fun _ _ => rfl) rfl
    hb (ok_one (by kernel_rfl) rfl (okWide_bool_mk Tryz.underlying4 _))⟩

theorem pathDetours_said (hspec : ∀ a0 : Int, (Lit.int .i64 a0).wf = true → Ab.Spec Tryz.prog [] 3 [.int .i64 a0] (.bool true)) : Rows.PathDetoursSaid :=
  OpenClaim.holds_of_wide 3 Tryz.f3 rfl rfl rfl rfl rfl rfl rfl ⟨rfl, rfl, rfl, rfl, rfl⟩ rfl rfl rfl rfl rfl (by kernel_rfl) Tryz.func3 (by kernel_rfl)
    (of_decide_eq_true (by kernel_rfl)) (by unfold Func.isWrapper; first | (rw [if_pos (by decide +kernel)]; kernel_rfl) | (rw [if_neg (by decide +kernel)]; exact ⟨rfl, rfl⟩))
    (fun os started H enc _ => pathDetours_lifted hspec os started H enc)

theorem pathDetours_proved : Rows.PathDetoursSaid := pathDetours_said (fun a0 _ => Ab.detl_law a0)
end Go.Proofs.YtinhfpljdjlomaaGreat
