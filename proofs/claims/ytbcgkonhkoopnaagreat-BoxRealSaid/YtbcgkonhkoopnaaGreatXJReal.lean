/- BoxReal: for all inputs, sums and products of real boxes are real, the root of a box of positive real numbers is real, that of a box of negative ones is purely imaginary, and both have the same size: the law returns true. No condition. -/
import Derived.Test.YtbcgkonhkoopnaaGreatXJoinZ
import Derived.Test.YtbcgkonhkoopnaaGreatXRealL
/-!
BoxReal: from the contract of the law's function to the given statement.
-/
namespace Go.Proofs.YtbcgkonhkoopnaaGreat
open Go.ChangeShapes Go.WideShapes Go.ChangeAt Go.RowKit Ab

set_option maxRecDepth 100000 in
theorem boxReal_lifted (hspec : ∀ a0a a0b a0c a0d a0e a1a a1b a1c a1d a1e : Int, (Lit.int .i64 a0a).wf = true → (Lit.int .i64 a0b).wf = true → (Lit.int .i64 a0c).wf = true → (Lit.int .i64 a0d).wf = true → (Lit.int .i64 a0e).wf = true → (Lit.int .i64 a1a).wf = true → (Lit.int .i64 a1b).wf = true → (Lit.int .i64 a1c).wf = true → (Lit.int .i64 a1d).wf = true → (Lit.int .i64 a1e).wf = true → Ab.Spec Tryz.prog [] 3 [.agg [.int .i64 a0a, .int .i64 a0b, .int .i64 a0c, .int .i64 a0d, .int .i64 a0e], .agg [.int .i64 a1a, .int .i64 a1b, .int .i64 a1c, .int .i64 a1d, .int .i64 a1e]] (.bool true)) (os : Os) (started : os.Started) (H : Type) (enc : TypeId × Value → H) :
    ReturnsInHanded {} Tryz.checked os 3 .any (Rows.boxRealSpec.pre6 enc Tryz.prog Tryz.f3 [] false) (Rows.boxRealSpec.post enc Tryz.prog Tryz.f3 false true false false) := by
  refine returnsInHanded_of_change (C := Tryz.checked) own started (by kernel_rfl) Tryz.func3
    (ChangeSpec.witness6 (enc := enc) (C := Tryz.checked) false ⟨#[], #[.agg #[.int .i64 0, .int .i64 0, .int .i64 0, .int .i64 0, .int .i64 0], .agg #[.int .i64 0, .int .i64 0, .int .i64 0, .int .i64 0, .int .i64 0]], []⟩ 8 (by kernel_rfl) (by kernel_rfl) (by kernel_rfl) (by kernel_rfl)) ?_
  intro W base args ds gs before hval0 hW _ _
  have hval : ∀ (j : Nat) t v, Tryz.f3.params[j]? = some t → args[j]? = some v → Value.okWide Tryz.prog W .any base t v := hval0
  have hW' := hW
  obtain ⟨p, q, hA0, hV, rfl, hfz, hnd⟩ := hW
  have hA : DataW.TrodAll enc Tryz.prog W 0 (fun _ => true) true Tryz.f3.params.toList args.toList ds p := hA0
  rw [Tryz.params3] at hA hval
  obtain ⟨v0, vs0, d0, ds0, p0, q0, hargs, rfl, rfl, h0, r0⟩ := trodAll_cons hA
  obtain ⟨v1, vs1, d1, ds1, p1, q1, rfl, rfl, rfl, h1, r1⟩ := trodAll_cons r0
  obtain ⟨rfl, rfl, rfl⟩ := trodAll_nil r1
  obtain rfl : args = #[v0, v1] := by cases args; simp_all
  obtain ⟨rfl, rfl⟩ := trodVars_none hV
  obtain ⟨zs0, l0, rfl, rfl, rfl, w0⟩ := open_intStruct Tryz.underlying23 (by kernel_rfl) (by kernel_rfl) (hval 0 23 v0 rfl rfl) h0
  obtain ⟨a0a, a0b, a0c, a0d, a0e, rfl⟩ := five_of (zs := zs0) l0
  obtain ⟨zs1, l1, rfl, rfl, rfl, w1⟩ := open_intStruct Tryz.underlying23 (by kernel_rfl) (by kernel_rfl) (hval 1 23 v1 rfl rfl) h1
  obtain ⟨a1a, a1b, a1c, a1d, a1e, rfl⟩ := five_of (zs := zs1) l1
  clear hA0 hval0
  simp only [List.append_nil] at hW'
  have hg : GlOk W (fun b => b < W.heap.size) [] := fun g av hg => by cases hg
  refine (Ab.Does.calls ((hspec a0a a0b a0c a0d a0e a1a a1b a1c a1d a1e (w0 _ (by simp)) (w0 _ (by simp)) (w0 _ (by simp)) (w0 _ (by simp)) (w0 _ (by simp)) (w1 _ (by simp)) (w1 _ (by simp)) (w1 _ (by simp)) (w1 _ (by simp)) (w1 _ (by simp))) W _ [.agg ⟨[a0a, a0b, a0c, a0d, a0e].map (Value.int .i64)⟩, .agg ⟨[a1a, a1b, a1c, a1d, a1e].map (Value.int .i64)⟩] (fun b hb => hb) hg (by
    unfold RepDL; exact ⟨_, _, rfl, rep_intStruct [a0a, a0b, a0c, a0d, a0e], by
    unfold RepDL; exact ⟨_, _, rfl, rep_intStruct [a1a, a1b, a1c, a1d, a1e], by
    unfold RepDL; exact rfl⟩⟩)) (by kernel_rfl)).mono fun e W' hh => ?_
  obtain ⟨v, rfl, hv, hb⟩ := hh
  unfold RepD at hv
  subst hv
  exact ⟨_, rfl, post_of_below (pa := []) (pv := []) hW' (fun _ _ _ => (trodAll_cons_mk (shut_bool Tryz.underlying4 _) trodAll_mk0)) (fun sp _ => (trodAll_cons_mk (shut_intStruct Tryz.underlying23 (by kernel_rfl) (by kernel_rfl) l0 w0) (trodAll_cons_mk (shut_intStruct Tryz.underlying23 (by kernel_rfl) (by kernel_rfl) l1 w1) trodAll_mk0))) (fun _ _ => rfl) rfl
    hb (ok_one (by kernel_rfl) rfl (okWide_bool_mk Tryz.underlying4 _))⟩

theorem boxReal_said (hspec : ∀ a0a a0b a0c a0d a0e a1a a1b a1c a1d a1e : Int, (Lit.int .i64 a0a).wf = true → (Lit.int .i64 a0b).wf = true → (Lit.int .i64 a0c).wf = true → (Lit.int .i64 a0d).wf = true → (Lit.int .i64 a0e).wf = true → (Lit.int .i64 a1a).wf = true → (Lit.int .i64 a1b).wf = true → (Lit.int .i64 a1c).wf = true → (Lit.int .i64 a1d).wf = true → (Lit.int .i64 a1e).wf = true → Ab.Spec Tryz.prog [] 3 [.agg [.int .i64 a0a, .int .i64 a0b, .int .i64 a0c, .int .i64 a0d, .int .i64 a0e], .agg [.int .i64 a1a, .int .i64 a1b, .int .i64 a1c, .int .i64 a1d, .int .i64 a1e]] (.bool true)) : Rows.BoxRealSaid :=
  OpenClaim.holds_of_wide 3 Tryz.f3 rfl rfl rfl rfl rfl rfl rfl ⟨rfl, rfl, rfl, rfl, rfl⟩ rfl rfl rfl rfl rfl (by kernel_rfl) Tryz.func3 (by kernel_rfl)
    (of_decide_eq_true (by kernel_rfl)) (by unfold Func.isWrapper; first | (rw [if_pos (by decide +kernel)]; kernel_rfl) | (rw [if_neg (by decide +kernel)]; exact ⟨rfl, rfl⟩))
    (fun os started H enc _ => boxReal_lifted hspec os started H enc)

theorem boxReal_proved : Rows.BoxRealSaid := boxReal_said (fun x0 x1 x2 x3 x4 x5 x6 x7 x8 x9 h0 h1 h2 h3 h4 h5 h6 h7 h8 h9 => Ab.real_law x0 x1 x2 x3 x4 x5 x6 x7 x8 x9 (Ab.i64_of h0) (Ab.i64_of h1) (Ab.i64_of h2) (Ab.i64_of h3) (Ab.i64_of h4) (Ab.i64_of h5) (Ab.i64_of h6) (Ab.i64_of h7) (Ab.i64_of h8) (Ab.i64_of h9))
end Go.Proofs.YtbcgkonhkoopnaaGreat
