/- BoxIncludes: for all inputs, sums, differences and products of numbers of two boxes are in the boxes of the sums, the differences and the products: the law returns true. No condition. -/
import Derived.Test.YtbcgkonhkoopnaaGreatXJoinZ
import Derived.Test.YtbcgkonhkoopnaaGreatXIncN
/-!
BoxIncludes: from the contract of the law's function to the given statement.
-/
namespace Go.Proofs.YtbcgkonhkoopnaaGreat
open Go.ChangeShapes Go.WideShapes Go.ChangeAt Go.RowKit Ab

set_option maxRecDepth 100000 in
theorem boxIncludes_lifted (hspec : ∀ a0a a0b a0c a0d a0e a1a a1b a1c a1d a1e a2 a3 a4 a5 : Int, (Lit.int .i64 a0a).wf = true → (Lit.int .i64 a0b).wf = true → (Lit.int .i64 a0c).wf = true → (Lit.int .i64 a0d).wf = true → (Lit.int .i64 a0e).wf = true → (Lit.int .i64 a1a).wf = true → (Lit.int .i64 a1b).wf = true → (Lit.int .i64 a1c).wf = true → (Lit.int .i64 a1d).wf = true → (Lit.int .i64 a1e).wf = true → (Lit.int .i64 a2).wf = true → (Lit.int .i64 a3).wf = true → (Lit.int .i64 a4).wf = true → (Lit.int .i64 a5).wf = true → Ab.Spec Tryz.prog [] 10 [.agg [.int .i64 a0a, .int .i64 a0b, .int .i64 a0c, .int .i64 a0d, .int .i64 a0e], .agg [.int .i64 a1a, .int .i64 a1b, .int .i64 a1c, .int .i64 a1d, .int .i64 a1e], .int .i64 a2, .int .i64 a3, .int .i64 a4, .int .i64 a5] (.bool true)) (os : Os) (started : os.Started) (H : Type) (enc : TypeId × Value → H) :
    ReturnsInHanded {} Tryz.checked os 10 .any (Rows.boxIncludesSpec.pre6 enc Tryz.prog Tryz.f10 [] false) (Rows.boxIncludesSpec.post enc Tryz.prog Tryz.f10 false true false false) := by
  refine returnsInHanded_of_change (C := Tryz.checked) own started (by kernel_rfl) Tryz.func10
    (ChangeSpec.witness6 (enc := enc) (C := Tryz.checked) false ⟨#[], #[.agg #[.int .i64 0, .int .i64 0, .int .i64 0, .int .i64 0, .int .i64 0], .agg #[.int .i64 0, .int .i64 0, .int .i64 0, .int .i64 0, .int .i64 0], .int .i64 0, .int .i64 0, .int .i64 0, .int .i64 0], []⟩ 8 (by kernel_rfl) (by kernel_rfl) (by kernel_rfl) (by kernel_rfl)) ?_
  intro W base args ds gs before hval0 hW _ _
  have hval : ∀ (j : Nat) t v, Tryz.f10.params[j]? = some t → args[j]? = some v → Value.okWide Tryz.prog W .any base t v := hval0
  have hW' := hW
  obtain ⟨p, q, hA0, hV, rfl, hfz, hnd⟩ := hW
  have hA : DataW.TrodAll enc Tryz.prog W 0 (fun _ => true) true Tryz.f10.params.toList args.toList ds p := hA0
  rw [Tryz.params10] at hA hval
  obtain ⟨v0, vs0, d0, ds0, p0, q0, hargs, rfl, rfl, h0, r0⟩ := trodAll_cons hA
  obtain ⟨v1, vs1, d1, ds1, p1, q1, rfl, rfl, rfl, h1, r1⟩ := trodAll_cons r0
  obtain ⟨v2, vs2, d2, ds2, p2, q2, rfl, rfl, rfl, h2, r2⟩ := trodAll_cons r1
  obtain ⟨v3, vs3, d3, ds3, p3, q3, rfl, rfl, rfl, h3, r3⟩ := trodAll_cons r2
  obtain ⟨v4, vs4, d4, ds4, p4, q4, rfl, rfl, rfl, h4, r4⟩ := trodAll_cons r3
  obtain ⟨v5, vs5, d5, ds5, p5, q5, rfl, rfl, rfl, h5, r5⟩ := trodAll_cons r4
  obtain ⟨rfl, rfl, rfl⟩ := trodAll_nil r5
  obtain rfl : args = #[v0, v1, v2, v3, v4, v5] := by cases args; simp_all
  obtain ⟨rfl, rfl⟩ := trodVars_none hV
  obtain ⟨zs0, l0, rfl, rfl, rfl, w0⟩ := open_intStruct Tryz.underlying23 (by kernel_rfl) (by kernel_rfl) (hval 0 23 v0 rfl rfl) h0
  obtain ⟨a0a, a0b, a0c, a0d, a0e, rfl⟩ := five_of (zs := zs0) l0
  obtain ⟨zs1, l1, rfl, rfl, rfl, w1⟩ := open_intStruct Tryz.underlying23 (by kernel_rfl) (by kernel_rfl) (hval 1 23 v1 rfl rfl) h1
  obtain ⟨a1a, a1b, a1c, a1d, a1e, rfl⟩ := five_of (zs := zs1) l1
  obtain ⟨a2, rfl, rfl, rfl, w2⟩ := open_int Tryz.underlying3 (hval 2 3 v2 rfl rfl) h2
  obtain ⟨a3, rfl, rfl, rfl, w3⟩ := open_int Tryz.underlying3 (hval 3 3 v3 rfl rfl) h3
  obtain ⟨a4, rfl, rfl, rfl, w4⟩ := open_int Tryz.underlying3 (hval 4 3 v4 rfl rfl) h4
  obtain ⟨a5, rfl, rfl, rfl, w5⟩ := open_int Tryz.underlying3 (hval 5 3 v5 rfl rfl) h5
  clear hA0 hval0
  simp only [List.append_nil] at hW'
  have hg : GlOk W (fun b => b < W.heap.size) [] := fun g av hg => by cases hg
  refine (Ab.Does.calls ((hspec a0a a0b a0c a0d a0e a1a a1b a1c a1d a1e a2 a3 a4 a5 (w0 _ (by simp)) (w0 _ (by simp)) (w0 _ (by simp)) (w0 _ (by simp)) (w0 _ (by simp)) (w1 _ (by simp)) (w1 _ (by simp)) (w1 _ (by simp)) (w1 _ (by simp)) (w1 _ (by simp)) w2 w3 w4 w5) W _ [.agg ⟨[a0a, a0b, a0c, a0d, a0e].map (Value.int .i64)⟩, .agg ⟨[a1a, a1b, a1c, a1d, a1e].map (Value.int .i64)⟩, .int .i64 a2, .int .i64 a3, .int .i64 a4, .int .i64 a5] (fun b hb => hb) hg (by
    unfold RepDL; exact ⟨_, _, rfl, rep_intStruct [a0a, a0b, a0c, a0d, a0e], by
    unfold RepDL; exact ⟨_, _, rfl, rep_intStruct [a1a, a1b, a1c, a1d, a1e], by
    unfold RepDL; exact ⟨_, _, rfl, by unfold RepD; rfl, by
    unfold RepDL; exact ⟨_, _, rfl, by unfold RepD; rfl, by
    unfold RepDL; exact ⟨_, _, rfl, by unfold RepD; rfl, by
    unfold RepDL; exact ⟨_, _, rfl, by unfold RepD; rfl, by
    unfold RepDL; exact rfl⟩⟩⟩⟩⟩⟩)) (by kernel_rfl)).mono fun e W' hh => ?_
  obtain ⟨v, rfl, hv, hb⟩ := hh
  unfold RepD at hv
  subst hv
  exact ⟨_, rfl, post_of_below (pa := []) (pv := []) hW' (fun _ _ _ => (trodAll_cons_mk (shut_bool Tryz.underlying4 _) trodAll_mk0)) (fun sp _ => (trodAll_cons_mk (shut_intStruct Tryz.underlying23 (by kernel_rfl) (by kernel_rfl) l0 w0) (trodAll_cons_mk (shut_intStruct Tryz.underlying23 (by kernel_rfl) (by kernel_rfl) l1 w1) (trodAll_cons_mk (shut_int Tryz.underlying3 w2) (trodAll_cons_mk (shut_int Tryz.underlying3 w3) (trodAll_cons_mk (shut_int Tryz.underlying3 w4) (trodAll_cons_mk (shut_int Tryz.underlying3 w5) trodAll_mk0))))))) (fun _ _ => rfl) rfl
    hb (ok_one (by kernel_rfl) rfl (okWide_bool_mk Tryz.underlying4 _))⟩

theorem boxIncludes_said (hspec : ∀ a0a a0b a0c a0d a0e a1a a1b a1c a1d a1e a2 a3 a4 a5 : Int, (Lit.int .i64 a0a).wf = true → (Lit.int .i64 a0b).wf = true → (Lit.int .i64 a0c).wf = true → (Lit.int .i64 a0d).wf = true → (Lit.int .i64 a0e).wf = true → (Lit.int .i64 a1a).wf = true → (Lit.int .i64 a1b).wf = true → (Lit.int .i64 a1c).wf = true → (Lit.int .i64 a1d).wf = true → (Lit.int .i64 a1e).wf = true → (Lit.int .i64 a2).wf = true → (Lit.int .i64 a3).wf = true → (Lit.int .i64 a4).wf = true → (Lit.int .i64 a5).wf = true → Ab.Spec Tryz.prog [] 10 [.agg [.int .i64 a0a, .int .i64 a0b, .int .i64 a0c, .int .i64 a0d, .int .i64 a0e], .agg [.int .i64 a1a, .int .i64 a1b, .int .i64 a1c, .int .i64 a1d, .int .i64 a1e], .int .i64 a2, .int .i64 a3, .int .i64 a4, .int .i64 a5] (.bool true)) : Rows.BoxIncludesSaid :=
  OpenClaim.holds_of_wide 10 Tryz.f10 rfl rfl rfl rfl rfl rfl rfl ⟨rfl, rfl, rfl, rfl, rfl⟩ rfl rfl rfl rfl rfl (by kernel_rfl) Tryz.func10 (by kernel_rfl)
    (of_decide_eq_true (by kernel_rfl)) (by unfold Func.isWrapper; first | (rw [if_pos (by decide +kernel)]; kernel_rfl) | (rw [if_neg (by decide +kernel)]; exact ⟨rfl, rfl⟩))
    (fun os started H enc _ => boxIncludes_lifted hspec os started H enc)

theorem boxIncludes_proved : Rows.BoxIncludesSaid := boxIncludes_said (fun x0 x1 x2 x3 x4 x5 x6 x7 x8 x9 x10 x11 x12 x13 h0 h1 h2 h3 h4 h5 h6 h7 h8 h9 h10 h11 h12 h13 => Ab.inc_law x0 x1 x2 x3 x4 x5 x6 x7 x8 x9 x10 x11 x12 x13 (Ab.i64_of h0) (Ab.i64_of h1) (Ab.i64_of h2) (Ab.i64_of h3) (Ab.i64_of h4) (Ab.i64_of h5) (Ab.i64_of h6) (Ab.i64_of h7) (Ab.i64_of h8) (Ab.i64_of h9) (Ab.i64_of h10) (Ab.i64_of h11) (Ab.i64_of h12) (Ab.i64_of h13))
end Go.Proofs.YtbcgkonhkoopnaaGreat
