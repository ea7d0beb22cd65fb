/- BoxMatchesReference: for all inputs, the functions of box answer as the functions of the reference straightedgeref16 do: the law returns true. No condition. -/
import Derived.Test.YtbcgkonhkoopnaaGreatXJoinZ
import Derived.Test.YtbcgkonhkoopnaaGreatXMatchL
import Derived.Test.YtbcgkonhkoopnaaGreatXGu
namespace Go.Proofs.YtbcgkonhkoopnaaGreat
open Go.ChangeShapes Go.WideShapes Go.ChangeAt Go.RowKit Ab
section
variable {P : Program} {k : Nat} {t i b g s u : TypeId} {avs : List AV}
theorem shp_par {f1 f2 f3 f4 f5 : Field} (hu : P.underlying t = some (.struct #[f1, f2, f3, f4, f5])) (hi : P.underlying i = some (.int .i64)) (e1 : f1.type = i) (e2 : f2.type = i) (e3 : f3.type = i) (e4 : f4.type = i) (e5 : f5.type = i) (h : Shp P (k + 2) t avs) : ∃ a b c d e : Int, avs = [.int .i64 a, .int .i64 b, .int .i64 c, .int .i64 d, .int .i64 e] ∧ Ab.I64 a ∧ Ab.I64 b ∧ Ab.I64 c ∧ Ab.I64 d ∧ Ab.I64 e := by
 obtain ⟨x0, y0, rfl, h0, x1, y1, rfl, h1, x2, y2, rfl, h2, x3, y3, rfl, h3, x4, y4, rfl, h4, rfl⟩ := shp_struct hu h
 rw [e1] at h0; rw [e2] at h1; rw [e3] at h2; rw [e4] at h3; rw [e5] at h4
 obtain ⟨a, rfl, wa⟩ := shp_int hi h0
 obtain ⟨b, rfl, wb⟩ := shp_int hi h1
 obtain ⟨c, rfl, wc⟩ := shp_int hi h2
 obtain ⟨d, rfl, wd⟩ := shp_int hi h3
 obtain ⟨e, rfl, we⟩ := shp_int hi h4
 exact ⟨a, b, c, d, e, rfl, Ab.i64_of wa, Ab.i64_of wb, Ab.i64_of wc, Ab.i64_of wd, Ab.i64_of we⟩
theorem shp_box {f1 f2 f3 f4 f5 : Field} (hu : P.underlying t = some (.struct #[f1, f2, f3, f4, f5])) (hi : P.underlying i = some (.int .i64)) (hb : P.underlying b = some .bool) (e1 : f1.type = i) (e2 : f2.type = i) (e3 : f3.type = i) (e4 : f4.type = i) (e5 : f5.type = b) (h : Shp P (k + 2) t avs) : ∃ (a b c d : Int) (w : Bool), avs = [.int .i64 a, .int .i64 b, .int .i64 c, .int .i64 d, .bool w] := by
 obtain ⟨x0, y0, rfl, h0, x1, y1, rfl, h1, x2, y2, rfl, h2, x3, y3, rfl, h3, x4, y4, rfl, h4, rfl⟩ := shp_struct hu h
 rw [e1] at h0; rw [e2] at h1; rw [e3] at h2; rw [e4] at h3; rw [e5] at h4
 obtain ⟨a, rfl, _⟩ := shp_int hi h0
 obtain ⟨b, rfl, _⟩ := shp_int hi h1
 obtain ⟨c, rfl, _⟩ := shp_int hi h2
 obtain ⟨d, rfl, _⟩ := shp_int hi h3
 obtain ⟨e, rfl⟩ := shp_bool hb h4
 exact ⟨a, b, c, d, e, rfl⟩
theorem shp_integer {f1 f2 : Field} (hu : P.underlying g = some (.struct #[f1, f2])) (hb : P.underlying b = some .bool) (hs : P.underlying s = some (.slice u)) (hi : P.underlying u = some (.int .u32)) (e1 : f1.type = b) (e2 : f2.type = s) (h : Shp P (k + 3) g avs) : ∃ (b : Bool) (l : List Int), avs = [.bool b, .sl (irows .u32 l)] ∧ Dg.D l := by
 obtain ⟨x0, y0, rfl, h0, x1, y1, rfl, h1, rfl⟩ := shp_struct hu h
 rw [e1] at h0; rw [e2] at h1
 obtain ⟨b, rfl⟩ := shp_bool hb h0
 obtain ⟨rows, rfl, _, hr⟩ := shp_slice hs h1
 obtain ⟨l, rfl, hl⟩ := shp_ints hi hr
 refine ⟨b, l, rfl, fun x hx => ?_⟩
 have := hl x hx
 obtain ⟨g1, g2⟩ := Bool.and_eq_true_iff.1 this
 have g1 : (0 : Int) <= x := of_decide_eq_true g1
 have g2 : x <= (4294967295 : Int) := of_decide_eq_true g2
 exact ⟨g1, by unfold Dg.B; omega⟩
theorem shp_rat {f1 f2 f3 f4 : Field} (hu : P.underlying t = some (.struct #[f3, f4])) (e3 : f3.type = g) (e4 : f4.type = g) (hg : P.underlying g = some (.struct #[f1, f2])) (hb : P.underlying b = some .bool) (hs : P.underlying s = some (.slice u)) (hi : P.underlying u = some (.int .u32)) (e1 : f1.type = b) (e2 : f2.type = s) (h : Shp P (k + 4) t avs) : ∃ (b : Bool) (l : List Int) (c : Bool) (m : List Int), avs = [.bool b, .sl (irows .u32 l), .bool c, .sl (irows .u32 m)] ∧ Dg.D l ∧ Dg.D m := by
 obtain ⟨x0, y0, rfl, h0, x1, y1, rfl, h1, rfl⟩ := shp_struct hu h
 rw [e3] at h0; rw [e4] at h1
 obtain ⟨b, l, rfl, hl⟩ := shp_integer hg hb hs hi e1 e2 h0
 obtain ⟨c, m, rfl, hm⟩ := shp_integer hg hb hs hi e1 e2 h1
 exact ⟨b, l, c, m, rfl, hl, hm⟩
end
set_option maxRecDepth 100000 in
theorem boxMatches_lifted (os : Os) (started : os.Started) (H : Type) (enc : TypeId × Value -> H) :
  ReturnsInHanded {} Tryz.checked os 5 .any (Rows.boxMatchesReferenceSpec.pre6 enc Tryz.prog Tryz.f5 [] false) (Rows.boxMatchesReferenceSpec.post enc Tryz.prog Tryz.f5 false true false false) := by
 refine returnsInHanded_of_change (C := Tryz.checked) own started (by kernel_rfl) Tryz.func5
  (ChangeSpec.witness6 (enc := enc) (C := Tryz.checked) false ⟨#[], #[.agg #[.int .i64 0, .int .i64 0, .int .i64 0, .int .i64 0, .bool false], .agg #[.int .i64 0, .int .i64 0, .int .i64 0, .int .i64 0, .bool false], .agg #[.int .i64 0, .int .i64 0, .int .i64 0, .int .i64 0, .int .i64 0], .agg #[.int .i64 0, .int .i64 0, .int .i64 0, .int .i64 0, .int .i64 0], .agg #[.bool false, .slice none 0 0, .bool false, .slice none 0 0], .int .i64 0], []⟩ 8 (by kernel_rfl) (by kernel_rfl) (by kernel_rfl) (by kernel_rfl)) ?_
 intro W base args ds gs before hval0 hW _ _
 have hval : ∀ (j : Nat) t v, Tryz.f5.params[j]? = some t -> args[j]? = some v -> Value.okWide Tryz.prog W .any base t v := hval0
 have hW' := hW
 have hlt := hW.lt
 obtain ⟨p, q, hA0, hV, rfl, hfz, hnd⟩ := hW
 have hA : DataW.TrodAll enc Tryz.prog W 0 (fun _ => true) true Tryz.f5.params.toList args.toList ds p := hA0
 have hback : ∀ W', Below W.heap.size W W' -> ∀ sp : Nat -> Bool, (∀ q ∈ p, sp q.block = true) -> DataW.TrodAll enc Tryz.prog W' 0 sp true Tryz.f5.params.toList args.toList ds p := by
  intro W' hk sp hsp
  refine trodAll_back hk 5 ?_ hA (fun q hq => hlt q (List.mem_append.2 (.inl hq))) hsp
  rw [Tryz.params5]
  exact List.forall_mem_cons.2 ⟨by kernel_rfl, List.forall_mem_cons.2 ⟨by kernel_rfl, List.forall_mem_cons.2 ⟨by kernel_rfl, List.forall_mem_cons.2 ⟨by kernel_rfl, List.forall_mem_cons.2 ⟨by kernel_rfl, List.forall_mem_cons.2 ⟨by kernel_rfl, fun _ h => by cases h⟩⟩⟩⟩⟩⟩
 rw [Tryz.params5] at hA hval
 obtain ⟨v0, vs0, d0, ds0, p0, q0, hargs, rfl, rfl, h0, r0⟩ := trodAll_cons hA
 obtain ⟨v1, vs1, d1, ds1, p1, q1, rfl, rfl, rfl, h1, r1⟩ := trodAll_cons r0
 obtain ⟨v2, vs2, d2, ds2, p2, q2, rfl, rfl, rfl, h2, r2⟩ := trodAll_cons r1
 obtain ⟨v3, vs3, d3, ds3, p3, q3, rfl, rfl, rfl, h3, r3⟩ := trodAll_cons r2
 obtain ⟨v4, vs4, d4, ds4, p4, q4, rfl, rfl, rfl, h4, r4⟩ := trodAll_cons r3
 obtain ⟨v5, vs5, d5, ds5, p5, q5, rfl, rfl, rfl, h5, r5⟩ := trodAll_cons r4
 obtain ⟨rfl, rfl, rfl⟩ := trodAll_nil r5
 obtain rfl : args = #[v0, v1, v2, v3, v4, v5] := by cases args; simp_all
 obtain ⟨rfl, rfl⟩ := trodVars_none hV
 obtain ⟨x0, s0, e0⟩ := arg_struct (k := 5) Tryz.underlying26 (by kernel_rfl) (hval 0 26 v0 rfl rfl) h0
 obtain ⟨x1, s1, e1⟩ := arg_struct (k := 5) Tryz.underlying26 (by kernel_rfl) (hval 1 26 v1 rfl rfl) h1
 obtain ⟨x2, s2, e2⟩ := arg_struct (k := 5) Tryz.underlying23 (by kernel_rfl) (hval 2 23 v2 rfl rfl) h2
 obtain ⟨x3, s3, e3⟩ := arg_struct (k := 5) Tryz.underlying23 (by kernel_rfl) (hval 3 23 v3 rfl rfl) h3
 obtain ⟨x4, s4, e4⟩ := arg_struct (k := 5) Tryz.underlying41 (by kernel_rfl) (hval 4 41 v4 rfl rfl) h4
 obtain ⟨n, rfl, _, _, wn⟩ := open_int Tryz.underlying3 (hval 5 3 v5 rfl rfl) h5
 obtain ⟨a1, a2, a3, a4, aw, rfl⟩ := shp_box Tryz.underlying26 Tryz.underlying3 Tryz.underlying4 rfl rfl rfl rfl rfl s0
 obtain ⟨b1, b2, b3, b4, bw, rfl⟩ := shp_box Tryz.underlying26 Tryz.underlying3 Tryz.underlying4 rfl rfl rfl rfl rfl s1
 obtain ⟨p1, p2, p3, p4, p5, rfl, i1, i2, i3, i4, i5⟩ := shp_par Tryz.underlying23 Tryz.underlying3 rfl rfl rfl rfl rfl s2
 obtain ⟨q1, q2, q3, q4, q5, rfl, j1, j2, j3, j4, j5⟩ := shp_par Tryz.underlying23 Tryz.underlying3 rfl rfl rfl rfl rfl s3
 obtain ⟨nn, nl, dn, dl, rfl, hnl, hdl⟩ := shp_rat Tryz.underlying41 rfl rfl Tryz.underlying39 Tryz.underlying4 Tryz.underlying37 Tryz.underlying94 rfl rfl s4
 clear hA0 hval0
 have hg : GlOk W (fun b => b < W.heap.size) [] := fun g av hg => by cases hg
 refine (Ab.Does.calls ((Ab.matchl_law a1 a2 a3 a4 b1 b2 b3 b4 n aw bw nn dn nl dl p1 p2 p3 p4 p5 q1 q2 q3 q4 q5 i1 i2 i3 i4 i5 j1 j2 j3 j4 j5 (Ab.i64_of wn) hnl hdl) W _ [v0, v1, v2, v3, v4, .int .i64 n] (fun b hb => hb) hg (by
  unfold RepDL; exact ⟨_, _, rfl, e0, by
  unfold RepDL; exact ⟨_, _, rfl, e1, by
  unfold RepDL; exact ⟨_, _, rfl, e2, by
  unfold RepDL; exact ⟨_, _, rfl, e3, by
  unfold RepDL; exact ⟨_, _, rfl, e4, by
  unfold RepDL; exact ⟨_, _, rfl, by unfold RepD; rfl, by
  unfold RepDL; exact rfl⟩⟩⟩⟩⟩⟩)) (by kernel_rfl)).mono fun e W' hh => ?_
 obtain ⟨v, rfl, hv, hb⟩ := hh
 unfold RepD at hv
 subst hv
 exact ⟨_, rfl, post_of_below (pv := []) hW' (fun _ _ _ => (trodAll_cons_mk (shut_bool Tryz.underlying4 _) trodAll_mk0)) (fun sp hsp => hback W' hb sp (fun q hq => hsp q (List.mem_append.2 (.inl hq)))) (fun _ _ => rfl) rfl
  hb (ok_one (by kernel_rfl) rfl (okWide_bool_mk Tryz.underlying4 _))⟩
theorem boxMatchesReference_proved : Rows.BoxMatchesReferenceSaid :=
 OpenClaim.holds_of_wide 5 Tryz.f5 rfl rfl rfl rfl rfl rfl rfl ⟨rfl, rfl, rfl, rfl, rfl⟩ rfl rfl rfl rfl rfl (by kernel_rfl) Tryz.func5 (by kernel_rfl)
  (of_decide_eq_true (by kernel_rfl)) (by unfold Func.isWrapper; first | (rw [if_pos (by decide +kernel)]; kernel_rfl) | (rw [if_neg (by decide +kernel)]; exact ⟨rfl, rfl⟩))
  (fun os started H enc _ => boxMatches_lifted os started H enc)
end Go.Proofs.YtbcgkonhkoopnaaGreat
