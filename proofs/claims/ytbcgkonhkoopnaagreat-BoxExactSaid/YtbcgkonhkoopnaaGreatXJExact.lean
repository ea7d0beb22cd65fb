/- BoxExact answers true for every input: the box of a fraction is its floor and its ceiling in units, which sums and products of fractions keep. No condition. -/
import Derived.Test.YtbcgkonhkoopnaaGreatXJoinZ
import Derived.Test.YtbcgkonhkoopnaaGreatXExactL
/-!
BoxExact: from the contract of the law's function to the given statement.
-/
namespace Go.Proofs.YtbcgkonhkoopnaaGreat
open Go.ChangeShapes Go.WideShapes Go.ChangeAt Go.RowKit Ab

set_option maxRecDepth 100000 in
theorem boxExact_lifted (hspec : ∀ a0 a1 a2 a3 : Int, (Lit.int .i64 a0).wf = true → (Lit.int .i64 a1).wf = true → (Lit.int .i64 a2).wf = true → (Lit.int .i64 a3).wf = true → Ab.Spec Tryz.prog [] 9 [.int .i64 a0, .int .i64 a1, .int .i64 a2, .int .i64 a3] (.bool true)) (os : Os) (started : os.Started) (H : Type) (enc : TypeId × Value → H) :
    ReturnsInHanded {} Tryz.checked os 9 .any (Rows.boxExactSpec.pre6 enc Tryz.prog Tryz.f9 [] false) (Rows.boxExactSpec.post enc Tryz.prog Tryz.f9 false true false false) := by
  refine returnsInHanded_of_change (C := Tryz.checked) own started (by kernel_rfl) Tryz.func9
    (ChangeSpec.witness6 (enc := enc) (C := Tryz.checked) false ⟨#[], #[.int .i64 0, .int .i64 0, .int .i64 0, .int .i64 0], []⟩ 8 (by kernel_rfl) (by kernel_rfl) (by kernel_rfl) (by kernel_rfl)) ?_
  intro W base args ds gs before hval0 hW _ _
  have hval : ∀ (j : Nat) t v, Tryz.f9.params[j]? = some t → args[j]? = some v → Value.okWide Tryz.prog W .any base t v := hval0
  have hW' := hW
  obtain ⟨p, q, hA0, hV, rfl, hfz, hnd⟩ := hW
  have hA : DataW.TrodAll enc Tryz.prog W 0 (fun _ => true) true Tryz.f9.params.toList args.toList ds p := hA0
  rw [Tryz.params9] at hA hval
  obtain ⟨v0, vs0, d0, ds0, p0, q0, hargs, rfl, rfl, h0, r0⟩ := trodAll_cons hA
  obtain ⟨v1, vs1, d1, ds1, p1, q1, rfl, rfl, rfl, h1, r1⟩ := trodAll_cons r0
  obtain ⟨v2, vs2, d2, ds2, p2, q2, rfl, rfl, rfl, h2, r2⟩ := trodAll_cons r1
  obtain ⟨v3, vs3, d3, ds3, p3, q3, rfl, rfl, rfl, h3, r3⟩ := trodAll_cons r2
  obtain ⟨rfl, rfl, rfl⟩ := trodAll_nil r3
  obtain rfl : args = #[v0, v1, v2, v3] := by cases args; simp_all
  obtain ⟨rfl, rfl⟩ := trodVars_none hV
  obtain ⟨a0, rfl, rfl, rfl, w0⟩ := open_int Tryz.underlying3 (hval 0 3 v0 rfl rfl) h0
  obtain ⟨a1, rfl, rfl, rfl, w1⟩ := open_int Tryz.underlying3 (hval 1 3 v1 rfl rfl) h1
  obtain ⟨a2, rfl, rfl, rfl, w2⟩ := open_int Tryz.underlying3 (hval 2 3 v2 rfl rfl) h2
  obtain ⟨a3, rfl, rfl, rfl, w3⟩ := open_int Tryz.underlying3 (hval 3 3 v3 rfl rfl) h3
  clear hA0 hval0
  simp only [List.append_nil] at hW'
  have hg : GlOk W (fun b => b < W.heap.size) [] := fun g av hg => by cases hg
  refine (Ab.Does.calls ((hspec a0 a1 a2 a3 w0 w1 w2 w3) W _ [.int .i64 a0, .int .i64 a1, .int .i64 a2, .int .i64 a3] (fun b hb => hb) hg (by
    unfold RepDL; exact ⟨_, _, rfl, by unfold RepD; rfl, by
    unfold RepDL; exact ⟨_, _, rfl, by unfold RepD; rfl, by
    unfold RepDL; exact ⟨_, _, rfl, by unfold RepD; rfl, by
    unfold RepDL; exact ⟨_, _, rfl, by unfold RepD; rfl, by
    unfold RepDL; exact rfl⟩⟩⟩⟩)) (by kernel_rfl)).mono fun e W' hh => ?_
  obtain ⟨v, rfl, hv, hb⟩ := hh
  unfold RepD at hv
  subst hv
  exact ⟨_, rfl, post_of_below (pa := []) (pv := []) hW' (fun _ _ _ => (trodAll_cons_mk (shut_bool Tryz.underlying4 _) trodAll_mk0)) (fun sp _ => (trodAll_cons_mk (shut_int Tryz.underlying3 w0) (trodAll_cons_mk (shut_int Tryz.underlying3 w1) (trodAll_cons_mk (shut_int Tryz.underlying3 w2) (trodAll_cons_mk (shut_int Tryz.underlying3 w3) trodAll_mk0))))) (fun _ _ => rfl) rfl
    hb (ok_one (by kernel_rfl) rfl (okWide_bool_mk Tryz.underlying4 _))⟩

theorem boxExact_said (hspec : ∀ a0 a1 a2 a3 : Int, (Lit.int .i64 a0).wf = true → (Lit.int .i64 a1).wf = true → (Lit.int .i64 a2).wf = true → (Lit.int .i64 a3).wf = true → Ab.Spec Tryz.prog [] 9 [.int .i64 a0, .int .i64 a1, .int .i64 a2, .int .i64 a3] (.bool true)) : Rows.BoxExactSaid :=
  OpenClaim.holds_of_wide 9 Tryz.f9 rfl rfl rfl rfl rfl rfl rfl ⟨rfl, rfl, rfl, rfl, rfl⟩ rfl rfl rfl rfl rfl (by kernel_rfl) Tryz.func9 (by kernel_rfl)
    (of_decide_eq_true (by kernel_rfl)) (by unfold Func.isWrapper; first | (rw [if_pos (by decide +kernel)]; kernel_rfl) | (rw [if_neg (by decide +kernel)]; exact ⟨rfl, rfl⟩))
    (fun os started H enc _ => boxExact_lifted hspec os started H enc)

theorem boxExact_proved : Rows.BoxExactSaid := boxExact_said (fun x0 x1 x2 x3 h0 h1 h2 h3 => Ab.exl_law x0 x1 x2 x3 (Ab.i64_of h0) (Ab.i64_of h1) (Ab.i64_of h2) (Ab.i64_of h3))
end Go.Proofs.YtbcgkonhkoopnaaGreat
