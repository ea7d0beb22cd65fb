import Derived.Test.YteghdokklckbhaaDoorXGe
/-!
The contract of rational.Div.
-/
open Go Go.Proofs
namespace Ab
set_option maxRecDepth 100000
set_option maxHeartbeats 1000000

theorem clo13 (gl : List (Nat × AV)) {F : FuncId} {xn yn zn : Bool} {xl yl zl : List Int} (hF : Spec Tryd.prog gl F [mkI xn xl, mkI yn yl] (.tup [mkI zn zl, .int .i64 0])) {tm : Nat → AV} {hp : Nat → Option Blk} (n : Nat) (he : hp 8 = some (.box [.int .i64 0])) (hc : hp 9 = some (.box [.fn F []]))
    (cl : ∀ k, k < 13 → blB 13 (hp k) = true) : Hn Tryd.prog T gl (n + 1) (.fn 72) [mkI xn xl, mkI yn yl, .bp 8 0, .bp 9 0] ⟨tm, hp, 13⟩ fun v s' => v = mkI zn zl ∧ bl 13 (mkI zn zl) = true ∧ clean 13 s'.hp 13 ∧ ∀ k, k < 13 → (hp k = none ∨ hp k = s'.hp k) := by
  obtain ⟨h0, rfl⟩ := put_known he hc
  refine Hn_in Tryd.f72 Tryd.func72 fn_ok72 (by kernel_rfl) ?_
  refine brF ?_
  refine Hn_by (Exists.intro _ (And.intro hF ?_))
  refine And.intro (Or.inr rfl) (And.intro rfl (And.intro rfl (Old.fin cl ?_)))
  repeat (first | exact Old.refl | refine Old.new rfl ?_ | refine Old.same rfl ?_)
theorem clo13c (gl : List (Nat × AV)) {F : FuncId} {xn yn zn : Bool} {xl yl zl : List Int} (hF : Spec Tryd.prog gl F [mkI xn xl, mkI yn yl] (.tup [mkI zn zl, .int .i64 0])) {tm : Nat → AV} {hp : Nat → Option Blk} {K : AV → St → Prop} (n : Nat) (he : hp 8 = some (.box [.int .i64 0])) (hc : hp 9 = some (.box [.fn F []]))
    (cl : ∀ k, k < 13 → blB 13 (hp k) = true) (hK : K (mkI zn zl) ⟨tm, cutH 13 hp, 13⟩) : Hn Tryd.prog T gl (n + 1) (.fn 72) [mkI xn xl, mkI yn yl, .bp 8 0, .bp 9 0] ⟨tm, hp, 13⟩ K := by
  obtain ⟨h0, rfl⟩ := put_known he hc
  refine Hn_cut Tryd.f72 Tryd.func72 fn_ok72 (by kernel_rfl) ?_
  refine brF ?_
  refine Hn_by (Exists.intro _ (And.intro hF ?_))
  refine And.intro (Or.inr rfl) (And.intro rfl (cut_K cl hK ?_))
  repeat (first | exact Old.refl | refine Old.new rfl ?_ | refine Old.same rfl ?_)

theorem ratdiv_walk (gl : List (Nat × AV)) {an ad bn bd xn yn zn zd : Bool} {al am bl bm xl yl zl zm : List Int} (s : Spec Tryd.prog gl 52 [.sl [[.bool an, lim al, .bool ad, lim am], [.bool bn, lim bl, .bool bd, lim bm]]] (.bool true)) (z : Spec Tryd.prog gl 53 [mkI bn bl] (.bool false))
    (m1 : Spec Tryd.prog gl 73 [mkI an al, mkI bd bm] (.tup [mkI xn xl, .int .i64 0])) (m2 : Spec Tryd.prog gl 73 [mkI ad am, mkI bn bl] (.tup [mkI yn yl, .int .i64 0])) (rd : Spec Tryd.prog gl 58 [mkI xn xl, mkI yn yl] (mkQ zn zl zd zm)) :
    Spec Tryd.prog gl 30 [mkQ an al ad am, mkQ bn bl bd bm] (.tup [mkQ zn zl zd zm, .int .i64 0]) := by
  refine spec_fn T_ok mixed_ok 5 Tryd.func30 fn_ok30 (by kernel_rfl) ?_
  refine Hn_by (And.intro (Nat.le_refl 2) (Exists.intro _ (And.intro s ?_)))
  refine brT ?_
  refine brT ?_
  refine brT ?_
  refine Hn_by (Exists.intro _ (And.intro z ?_))
  refine brF ?_
  refine Hn_in Tryd.f49 Tryd.func49 fn_ok49 (by kernel_rfl) ?_
  refine Hn_by (And.intro (Nat.le_refl 2) (Exists.intro _ (And.intro s ?_)))
  refine brF ?_
  refine Hn_in Tryd.f71 Tryd.func71 fn_ok71 (by kernel_rfl) ?_
  refine And.intro (Or.inr rfl) ?_
  refine Hn_in Tryd.f71 Tryd.func71 fn_ok71 (by kernel_rfl) ?_
  refine And.intro (Or.inr rfl) ?_
  refine Hn_in Tryd.f54 Tryd.func54 fn_ok54 (by kernel_rfl) ?_
  refine clo13c gl m1 _ (by kernel_rfl) (by kernel_rfl) (clean_at (cleanB_ok (by kernel_rfl))) ?_
  refine And.intro (by kernel_rfl) ?_
  refine And.intro (by kernel_rfl) ?_
  refine Exists.intro (mkI yn yl) (And.intro ?_ (fun tm => clo13 gl m2 _ (by kernel_rfl) (by kernel_rfl) (clean_at (cleanB_ok (by kernel_rfl)))))
  refine And.intro (Or.inr rfl) ?_
  refine brF ?_
  refine Hn_by (Exists.intro _ (And.intro rd ?_))
  refine And.intro (Or.inr rfl) ?_
  exact And.intro (Or.inr rfl) rfl
end Ab
