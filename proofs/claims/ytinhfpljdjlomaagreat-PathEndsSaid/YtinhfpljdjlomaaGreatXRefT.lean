import Derived.Test.YtinhfpljdjlomaaGreatXRatTot
open Go Go.Proofs
namespace Ab
set_option maxRecDepth 100000
set_option maxHeartbeats 1000000
section
variable (gl : List (Nat × AV)) {an ad bn bd xn yn vn wn sn zn zd : Bool} {al am bl bm xl yl vl wl sl zl zm : List Int} (bo : Spec Tryz.prog gl 124 [mkQ an al ad am,mkQ bn bl bd bm] (.bool true))
include bo
theorem rqmul_0 (m1 : Spec Tryz.prog gl 125 [mkI an al,mkI bn bl] (.tup [mkI xn xl,.int .i64 0])) (m2 : Spec Tryz.prog gl 125 [mkI ad am,mkI bd bm] (.tup [mkI yn yl,.int .i64 0])) (lo : Spec Tryz.prog gl 126 [mkI xn xl,mkI yn yl] (mkQ zn zl zd zm)) : Spec Tryz.prog gl 84 [mkQ an al ad am,mkQ bn bl bd bm] (.tup [mkQ zn zl zd zm,.int .i64 0]):=by
 refine spec_fn T_ok mixed_ok 0 Tryz.func84 fn_ok84 (by kernel_rfl) ?_
 first | refine Exists.intro _ (And.intro (bo) ?_) | refine Hn_by (Exists.intro _ (And.intro (bo) ?_))
 repeat (first | refine gT ?_ | refine gF ?_ | refine brT ?_ | refine brF ?_)
 first | refine Exists.intro _ (And.intro (m1) ?_) | refine Hn_by (Exists.intro _ (And.intro (m1) ?_))
 repeat (first | refine gT ?_ | refine gF ?_ | refine brT ?_ | refine brF ?_)
 first | refine Exists.intro _ (And.intro (m2) ?_) | refine Hn_by (Exists.intro _ (And.intro (m2) ?_))
 repeat (first | refine gT ?_ | refine gF ?_ | refine brT ?_ | refine brF ?_)
 first | refine Exists.intro _ (And.intro (lo) ?_) | refine Hn_by (Exists.intro _ (And.intro (lo) ?_))
 exact And.intro (Or.inr rfl) rfl
theorem rqmul_1 (m1 : Spec Tryz.prog gl 125 [mkI an al,mkI bn bl] (.tup [mkI xn xl,.int .i64 2])) : Spec Tryz.prog gl 84 [mkQ an al ad am,mkQ bn bl bd bm] badQ:=by
 refine spec_fn T_ok mixed_ok 0 Tryz.func84 fn_ok84 (by kernel_rfl) ?_
 first | refine Exists.intro _ (And.intro (bo) ?_) | refine Hn_by (Exists.intro _ (And.intro (bo) ?_))
 repeat (first | refine gT ?_ | refine gF ?_ | refine brT ?_ | refine brF ?_)
 first | refine Exists.intro _ (And.intro (m1) ?_) | refine Hn_by (Exists.intro _ (And.intro (m1) ?_))
 repeat (first | refine gT ?_ | refine gF ?_ | refine brT ?_ | refine brF ?_)
 exact And.intro (Or.inr rfl) rfl
theorem rqmul_2 (m1 : Spec Tryz.prog gl 125 [mkI an al,mkI bn bl] (.tup [mkI xn xl,.int .i64 0])) (m2 : Spec Tryz.prog gl 125 [mkI ad am,mkI bd bm] (.tup [mkI yn yl,.int .i64 2])) : Spec Tryz.prog gl 84 [mkQ an al ad am,mkQ bn bl bd bm] badQ:=by
 refine spec_fn T_ok mixed_ok 0 Tryz.func84 fn_ok84 (by kernel_rfl) ?_
 first | refine Exists.intro _ (And.intro (bo) ?_) | refine Hn_by (Exists.intro _ (And.intro (bo) ?_))
 repeat (first | refine gT ?_ | refine gF ?_ | refine brT ?_ | refine brF ?_)
 first | refine Exists.intro _ (And.intro (m1) ?_) | refine Hn_by (Exists.intro _ (And.intro (m1) ?_))
 repeat (first | refine gT ?_ | refine gF ?_ | refine brT ?_ | refine brF ?_)
 first | refine Exists.intro _ (And.intro (m2) ?_) | refine Hn_by (Exists.intro _ (And.intro (m2) ?_))
 repeat (first | refine gT ?_ | refine gF ?_ | refine brT ?_ | refine brF ?_)
 exact And.intro (Or.inr rfl) rfl
theorem rqadd_0 (m1 : Spec Tryz.prog gl 125 [mkI an al,mkI bd bm] (.tup [mkI xn xl,.int .i64 0])) (m2 : Spec Tryz.prog gl 125 [mkI bn bl,mkI ad am] (.tup [mkI yn yl,.int .i64 0])) (a1 : Spec Tryz.prog gl 161 [mkI xn xl,mkI yn yl] (.tup [mkI sn sl,.int .i64 0])) (m3 : Spec Tryz.prog gl 125 [mkI ad am,mkI bd bm] (.tup [mkI wn wl,.int .i64 0])) (lo : Spec Tryz.prog gl 126 [mkI sn sl,mkI wn wl] (mkQ zn zl zd zm)) : Spec Tryz.prog gl 85 [mkQ an al ad am,mkQ bn bl bd bm] (.tup [mkQ zn zl zd zm,.int .i64 0]):=by
 have s : Spec Tryz.prog gl 123 [mkQ an al ad am,mkQ bn bl bd bm,.bool false] (.tup [mkQ zn zl zd zm,.int .i64 0]):=by
  refine spec_fn T_ok mixed_ok 0 Tryz.func123 fn_ok123 (by kernel_rfl) ?_
  first | refine Exists.intro _ (And.intro (bo) ?_) | refine Hn_by (Exists.intro _ (And.intro (bo) ?_))
  repeat (first | refine gT ?_ | refine gF ?_ | refine brT ?_ | refine brF ?_)
  first | refine Exists.intro _ (And.intro (m1) ?_) | refine Hn_by (Exists.intro _ (And.intro (m1) ?_))
  repeat (first | refine gT ?_ | refine gF ?_ | refine brT ?_ | refine brF ?_)
  first | refine Exists.intro _ (And.intro (m2) ?_) | refine Hn_by (Exists.intro _ (And.intro (m2) ?_))
  repeat (first | refine gT ?_ | refine gF ?_ | refine brT ?_ | refine brF ?_)
  first | refine Exists.intro _ (And.intro (a1) ?_) | refine Hn_by (Exists.intro _ (And.intro (a1) ?_))
  repeat (first | refine gT ?_ | refine gF ?_ | refine brT ?_ | refine brF ?_)
  first | refine Exists.intro _ (And.intro (m3) ?_) | refine Hn_by (Exists.intro _ (And.intro (m3) ?_))
  repeat (first | refine gT ?_ | refine gF ?_ | refine brT ?_ | refine brF ?_)
  first | refine Exists.intro _ (And.intro (lo) ?_) | refine Hn_by (Exists.intro _ (And.intro (lo) ?_))
  exact And.intro (Or.inr rfl) rfl
 refine spec_fn T_ok mixed_ok 0 Tryz.func85 fn_ok85 (by kernel_rfl) ?_
 first | refine Exists.intro _ (And.intro (s) ?_) | refine Hn_by (Exists.intro _ (And.intro (s) ?_))
 exact And.intro (Or.inr rfl) rfl
theorem rqadd_1 (m1 : Spec Tryz.prog gl 125 [mkI an al,mkI bd bm] (.tup [mkI xn xl,.int .i64 2])) : Spec Tryz.prog gl 85 [mkQ an al ad am,mkQ bn bl bd bm] badQ:=by
 have s : Spec Tryz.prog gl 123 [mkQ an al ad am,mkQ bn bl bd bm,.bool false] badQ:=by
  refine spec_fn T_ok mixed_ok 0 Tryz.func123 fn_ok123 (by kernel_rfl) ?_
  first | refine Exists.intro _ (And.intro (bo) ?_) | refine Hn_by (Exists.intro _ (And.intro (bo) ?_))
  repeat (first | refine gT ?_ | refine gF ?_ | refine brT ?_ | refine brF ?_)
  first | refine Exists.intro _ (And.intro (m1) ?_) | refine Hn_by (Exists.intro _ (And.intro (m1) ?_))
  repeat (first | refine gT ?_ | refine gF ?_ | refine brT ?_ | refine brF ?_)
  exact And.intro (Or.inr rfl) rfl
 refine spec_fn T_ok mixed_ok 0 Tryz.func85 fn_ok85 (by kernel_rfl) ?_
 first | refine Exists.intro _ (And.intro (s) ?_) | refine Hn_by (Exists.intro _ (And.intro (s) ?_))
 exact And.intro (Or.inr rfl) rfl
theorem rqadd_2 (m1 : Spec Tryz.prog gl 125 [mkI an al,mkI bd bm] (.tup [mkI xn xl,.int .i64 0])) (m2 : Spec Tryz.prog gl 125 [mkI bn bl,mkI ad am] (.tup [mkI yn yl,.int .i64 2])) : Spec Tryz.prog gl 85 [mkQ an al ad am,mkQ bn bl bd bm] badQ:=by
 have s : Spec Tryz.prog gl 123 [mkQ an al ad am,mkQ bn bl bd bm,.bool false] badQ:=by
  refine spec_fn T_ok mixed_ok 0 Tryz.func123 fn_ok123 (by kernel_rfl) ?_
  first | refine Exists.intro _ (And.intro (bo) ?_) | refine Hn_by (Exists.intro _ (And.intro (bo) ?_))
  repeat (first | refine gT ?_ | refine gF ?_ | refine brT ?_ | refine brF ?_)
  first | refine Exists.intro _ (And.intro (m1) ?_) | refine Hn_by (Exists.intro _ (And.intro (m1) ?_))
  repeat (first | refine gT ?_ | refine gF ?_ | refine brT ?_ | refine brF ?_)
  first | refine Exists.intro _ (And.intro (m2) ?_) | refine Hn_by (Exists.intro _ (And.intro (m2) ?_))
  repeat (first | refine gT ?_ | refine gF ?_ | refine brT ?_ | refine brF ?_)
  exact And.intro (Or.inr rfl) rfl
 refine spec_fn T_ok mixed_ok 0 Tryz.func85 fn_ok85 (by kernel_rfl) ?_
 first | refine Exists.intro _ (And.intro (s) ?_) | refine Hn_by (Exists.intro _ (And.intro (s) ?_))
 exact And.intro (Or.inr rfl) rfl
theorem rqadd_3 (m1 : Spec Tryz.prog gl 125 [mkI an al,mkI bd bm] (.tup [mkI xn xl,.int .i64 0])) (m2 : Spec Tryz.prog gl 125 [mkI bn bl,mkI ad am] (.tup [mkI yn yl,.int .i64 0])) (a1 : Spec Tryz.prog gl 161 [mkI xn xl,mkI yn yl] (.tup [mkI sn sl,.int .i64 2])) : Spec Tryz.prog gl 85 [mkQ an al ad am,mkQ bn bl bd bm] badQ:=by
 have s : Spec Tryz.prog gl 123 [mkQ an al ad am,mkQ bn bl bd bm,.bool false] badQ:=by
  refine spec_fn T_ok mixed_ok 0 Tryz.func123 fn_ok123 (by kernel_rfl) ?_
  first | refine Exists.intro _ (And.intro (bo) ?_) | refine Hn_by (Exists.intro _ (And.intro (bo) ?_))
  repeat (first | refine gT ?_ | refine gF ?_ | refine brT ?_ | refine brF ?_)
  first | refine Exists.intro _ (And.intro (m1) ?_) | refine Hn_by (Exists.intro _ (And.intro (m1) ?_))
  repeat (first | refine gT ?_ | refine gF ?_ | refine brT ?_ | refine brF ?_)
  first | refine Exists.intro _ (And.intro (m2) ?_) | refine Hn_by (Exists.intro _ (And.intro (m2) ?_))
  repeat (first | refine gT ?_ | refine gF ?_ | refine brT ?_ | refine brF ?_)
  first | refine Exists.intro _ (And.intro (a1) ?_) | refine Hn_by (Exists.intro _ (And.intro (a1) ?_))
  repeat (first | refine gT ?_ | refine gF ?_ | refine brT ?_ | refine brF ?_)
  exact And.intro (Or.inr rfl) rfl
 refine spec_fn T_ok mixed_ok 0 Tryz.func85 fn_ok85 (by kernel_rfl) ?_
 first | refine Exists.intro _ (And.intro (s) ?_) | refine Hn_by (Exists.intro _ (And.intro (s) ?_))
 exact And.intro (Or.inr rfl) rfl
theorem rqadd_4 (m1 : Spec Tryz.prog gl 125 [mkI an al,mkI bd bm] (.tup [mkI xn xl,.int .i64 0])) (m2 : Spec Tryz.prog gl 125 [mkI bn bl,mkI ad am] (.tup [mkI yn yl,.int .i64 0])) (a1 : Spec Tryz.prog gl 161 [mkI xn xl,mkI yn yl] (.tup [mkI sn sl,.int .i64 0])) (m3 : Spec Tryz.prog gl 125 [mkI ad am,mkI bd bm] (.tup [mkI wn wl,.int .i64 2])) : Spec Tryz.prog gl 85 [mkQ an al ad am,mkQ bn bl bd bm] badQ:=by
 have s : Spec Tryz.prog gl 123 [mkQ an al ad am,mkQ bn bl bd bm,.bool false] badQ:=by
  refine spec_fn T_ok mixed_ok 0 Tryz.func123 fn_ok123 (by kernel_rfl) ?_
  first | refine Exists.intro _ (And.intro (bo) ?_) | refine Hn_by (Exists.intro _ (And.intro (bo) ?_))
  repeat (first | refine gT ?_ | refine gF ?_ | refine brT ?_ | refine brF ?_)
  first | refine Exists.intro _ (And.intro (m1) ?_) | refine Hn_by (Exists.intro _ (And.intro (m1) ?_))
  repeat (first | refine gT ?_ | refine gF ?_ | refine brT ?_ | refine brF ?_)
  first | refine Exists.intro _ (And.intro (m2) ?_) | refine Hn_by (Exists.intro _ (And.intro (m2) ?_))
  repeat (first | refine gT ?_ | refine gF ?_ | refine brT ?_ | refine brF ?_)
  first | refine Exists.intro _ (And.intro (a1) ?_) | refine Hn_by (Exists.intro _ (And.intro (a1) ?_))
  repeat (first | refine gT ?_ | refine gF ?_ | refine brT ?_ | refine brF ?_)
  first | refine Exists.intro _ (And.intro (m3) ?_) | refine Hn_by (Exists.intro _ (And.intro (m3) ?_))
  repeat (first | refine gT ?_ | refine gF ?_ | refine brT ?_ | refine brF ?_)
  exact And.intro (Or.inr rfl) rfl
 refine spec_fn T_ok mixed_ok 0 Tryz.func85 fn_ok85 (by kernel_rfl) ?_
 first | refine Exists.intro _ (And.intro (s) ?_) | refine Hn_by (Exists.intro _ (And.intro (s) ?_))
 exact And.intro (Or.inr rfl) rfl
theorem rqsub_0 (m1 : Spec Tryz.prog gl 125 [mkI an al,mkI bd bm] (.tup [mkI xn xl,.int .i64 0])) (m2 : Spec Tryz.prog gl 125 [mkI bn bl,mkI ad am] (.tup [mkI yn yl,.int .i64 0])) (ng : Spec Tryz.prog gl 160 [mkI yn yl] (mkI vn vl)) (a1 : Spec Tryz.prog gl 161 [mkI xn xl,mkI vn vl] (.tup [mkI sn sl,.int .i64 0])) (m3 : Spec Tryz.prog gl 125 [mkI ad am,mkI bd bm] (.tup [mkI wn wl,.int .i64 0])) (lo : Spec Tryz.prog gl 126 [mkI sn sl,mkI wn wl] (mkQ zn zl zd zm)) : Spec Tryz.prog gl 83 [mkQ an al ad am,mkQ bn bl bd bm] (.tup [mkQ zn zl zd zm,.int .i64 0]):=by
 have s : Spec Tryz.prog gl 123 [mkQ an al ad am,mkQ bn bl bd bm,.bool true] (.tup [mkQ zn zl zd zm,.int .i64 0]):=by
  refine spec_fn T_ok mixed_ok 0 Tryz.func123 fn_ok123 (by kernel_rfl) ?_
  first | refine Exists.intro _ (And.intro (bo) ?_) | refine Hn_by (Exists.intro _ (And.intro (bo) ?_))
  repeat (first | refine gT ?_ | refine gF ?_ | refine brT ?_ | refine brF ?_)
  first | refine Exists.intro _ (And.intro (m1) ?_) | refine Hn_by (Exists.intro _ (And.intro (m1) ?_))
  repeat (first | refine gT ?_ | refine gF ?_ | refine brT ?_ | refine brF ?_)
  first | refine Exists.intro _ (And.intro (m2) ?_) | refine Hn_by (Exists.intro _ (And.intro (m2) ?_))
  repeat (first | refine gT ?_ | refine gF ?_ | refine brT ?_ | refine brF ?_)
  first | refine Exists.intro _ (And.intro (ng) ?_) | refine Hn_by (Exists.intro _ (And.intro (ng) ?_))
  first | refine Exists.intro _ (And.intro (a1) ?_) | refine Hn_by (Exists.intro _ (And.intro (a1) ?_))
  repeat (first | refine gT ?_ | refine gF ?_ | refine brT ?_ | refine brF ?_)
  first | refine Exists.intro _ (And.intro (m3) ?_) | refine Hn_by (Exists.intro _ (And.intro (m3) ?_))
  repeat (first | refine gT ?_ | refine gF ?_ | refine brT ?_ | refine brF ?_)
  first | refine Exists.intro _ (And.intro (lo) ?_) | refine Hn_by (Exists.intro _ (And.intro (lo) ?_))
  exact And.intro (Or.inr rfl) rfl
 refine spec_fn T_ok mixed_ok 0 Tryz.func83 fn_ok83 (by kernel_rfl) ?_
 first | refine Exists.intro _ (And.intro (s) ?_) | refine Hn_by (Exists.intro _ (And.intro (s) ?_))
 exact And.intro (Or.inr rfl) rfl
theorem rqsub_1 (m1 : Spec Tryz.prog gl 125 [mkI an al,mkI bd bm] (.tup [mkI xn xl,.int .i64 2])) : Spec Tryz.prog gl 83 [mkQ an al ad am,mkQ bn bl bd bm] badQ:=by
 have s : Spec Tryz.prog gl 123 [mkQ an al ad am,mkQ bn bl bd bm,.bool true] badQ:=by
  refine spec_fn T_ok mixed_ok 0 Tryz.func123 fn_ok123 (by kernel_rfl) ?_
  first | refine Exists.intro _ (And.intro (bo) ?_) | refine Hn_by (Exists.intro _ (And.intro (bo) ?_))
  repeat (first | refine gT ?_ | refine gF ?_ | refine brT ?_ | refine brF ?_)
  first | refine Exists.intro _ (And.intro (m1) ?_) | refine Hn_by (Exists.intro _ (And.intro (m1) ?_))
  repeat (first | refine gT ?_ | refine gF ?_ | refine brT ?_ | refine brF ?_)
  exact And.intro (Or.inr rfl) rfl
 refine spec_fn T_ok mixed_ok 0 Tryz.func83 fn_ok83 (by kernel_rfl) ?_
 first | refine Exists.intro _ (And.intro (s) ?_) | refine Hn_by (Exists.intro _ (And.intro (s) ?_))
 exact And.intro (Or.inr rfl) rfl
theorem rqsub_2 (m1 : Spec Tryz.prog gl 125 [mkI an al,mkI bd bm] (.tup [mkI xn xl,.int .i64 0])) (m2 : Spec Tryz.prog gl 125 [mkI bn bl,mkI ad am] (.tup [mkI yn yl,.int .i64 2])) : Spec Tryz.prog gl 83 [mkQ an al ad am,mkQ bn bl bd bm] badQ:=by
 have s : Spec Tryz.prog gl 123 [mkQ an al ad am,mkQ bn bl bd bm,.bool true] badQ:=by
  refine spec_fn T_ok mixed_ok 0 Tryz.func123 fn_ok123 (by kernel_rfl) ?_
  first | refine Exists.intro _ (And.intro (bo) ?_) | refine Hn_by (Exists.intro _ (And.intro (bo) ?_))
  repeat (first | refine gT ?_ | refine gF ?_ | refine brT ?_ | refine brF ?_)
  first | refine Exists.intro _ (And.intro (m1) ?_) | refine Hn_by (Exists.intro _ (And.intro (m1) ?_))
  repeat (first | refine gT ?_ | refine gF ?_ | refine brT ?_ | refine brF ?_)
  first | refine Exists.intro _ (And.intro (m2) ?_) | refine Hn_by (Exists.intro _ (And.intro (m2) ?_))
  repeat (first | refine gT ?_ | refine gF ?_ | refine brT ?_ | refine brF ?_)
  exact And.intro (Or.inr rfl) rfl
 refine spec_fn T_ok mixed_ok 0 Tryz.func83 fn_ok83 (by kernel_rfl) ?_
 first | refine Exists.intro _ (And.intro (s) ?_) | refine Hn_by (Exists.intro _ (And.intro (s) ?_))
 exact And.intro (Or.inr rfl) rfl
theorem rqsub_3 (m1 : Spec Tryz.prog gl 125 [mkI an al,mkI bd bm] (.tup [mkI xn xl,.int .i64 0])) (m2 : Spec Tryz.prog gl 125 [mkI bn bl,mkI ad am] (.tup [mkI yn yl,.int .i64 0])) (ng : Spec Tryz.prog gl 160 [mkI yn yl] (mkI vn vl)) (a1 : Spec Tryz.prog gl 161 [mkI xn xl,mkI vn vl] (.tup [mkI sn sl,.int .i64 2])) : Spec Tryz.prog gl 83 [mkQ an al ad am,mkQ bn bl bd bm] badQ:=by
 have s : Spec Tryz.prog gl 123 [mkQ an al ad am,mkQ bn bl bd bm,.bool true] badQ:=by
  refine spec_fn T_ok mixed_ok 0 Tryz.func123 fn_ok123 (by kernel_rfl) ?_
  first | refine Exists.intro _ (And.intro (bo) ?_) | refine Hn_by (Exists.intro _ (And.intro (bo) ?_))
  repeat (first | refine gT ?_ | refine gF ?_ | refine brT ?_ | refine brF ?_)
  first | refine Exists.intro _ (And.intro (m1) ?_) | refine Hn_by (Exists.intro _ (And.intro (m1) ?_))
  repeat (first | refine gT ?_ | refine gF ?_ | refine brT ?_ | refine brF ?_)
  first | refine Exists.intro _ (And.intro (m2) ?_) | refine Hn_by (Exists.intro _ (And.intro (m2) ?_))
  repeat (first | refine gT ?_ | refine gF ?_ | refine brT ?_ | refine brF ?_)
  first | refine Exists.intro _ (And.intro (ng) ?_) | refine Hn_by (Exists.intro _ (And.intro (ng) ?_))
  first | refine Exists.intro _ (And.intro (a1) ?_) | refine Hn_by (Exists.intro _ (And.intro (a1) ?_))
  repeat (first | refine gT ?_ | refine gF ?_ | refine brT ?_ | refine brF ?_)
  exact And.intro (Or.inr rfl) rfl
 refine spec_fn T_ok mixed_ok 0 Tryz.func83 fn_ok83 (by kernel_rfl) ?_
 first | refine Exists.intro _ (And.intro (s) ?_) | refine Hn_by (Exists.intro _ (And.intro (s) ?_))
 exact And.intro (Or.inr rfl) rfl
theorem rqsub_4 (m1 : Spec Tryz.prog gl 125 [mkI an al,mkI bd bm] (.tup [mkI xn xl,.int .i64 0])) (m2 : Spec Tryz.prog gl 125 [mkI bn bl,mkI ad am] (.tup [mkI yn yl,.int .i64 0])) (ng : Spec Tryz.prog gl 160 [mkI yn yl] (mkI vn vl)) (a1 : Spec Tryz.prog gl 161 [mkI xn xl,mkI vn vl] (.tup [mkI sn sl,.int .i64 0])) (m3 : Spec Tryz.prog gl 125 [mkI ad am,mkI bd bm] (.tup [mkI wn wl,.int .i64 2])) : Spec Tryz.prog gl 83 [mkQ an al ad am,mkQ bn bl bd bm] badQ:=by
 have s : Spec Tryz.prog gl 123 [mkQ an al ad am,mkQ bn bl bd bm,.bool true] badQ:=by
  refine spec_fn T_ok mixed_ok 0 Tryz.func123 fn_ok123 (by kernel_rfl) ?_
  first | refine Exists.intro _ (And.intro (bo) ?_) | refine Hn_by (Exists.intro _ (And.intro (bo) ?_))
  repeat (first | refine gT ?_ | refine gF ?_ | refine brT ?_ | refine brF ?_)
  first | refine Exists.intro _ (And.intro (m1) ?_) | refine Hn_by (Exists.intro _ (And.intro (m1) ?_))
  repeat (first | refine gT ?_ | refine gF ?_ | refine brT ?_ | refine brF ?_)
  first | refine Exists.intro _ (And.intro (m2) ?_) | refine Hn_by (Exists.intro _ (And.intro (m2) ?_))
  repeat (first | refine gT ?_ | refine gF ?_ | refine brT ?_ | refine brF ?_)
  first | refine Exists.intro _ (And.intro (ng) ?_) | refine Hn_by (Exists.intro _ (And.intro (ng) ?_))
  first | refine Exists.intro _ (And.intro (a1) ?_) | refine Hn_by (Exists.intro _ (And.intro (a1) ?_))
  repeat (first | refine gT ?_ | refine gF ?_ | refine brT ?_ | refine brF ?_)
  first | refine Exists.intro _ (And.intro (m3) ?_) | refine Hn_by (Exists.intro _ (And.intro (m3) ?_))
  repeat (first | refine gT ?_ | refine gF ?_ | refine brT ?_ | refine brF ?_)
  exact And.intro (Or.inr rfl) rfl
 refine spec_fn T_ok mixed_ok 0 Tryz.func83 fn_ok83 (by kernel_rfl) ?_
 first | refine Exists.intro _ (And.intro (s) ?_) | refine Hn_by (Exists.intro _ (And.intro (s) ?_))
 exact And.intro (Or.inr rfl) rfl
end
theorem rqboth (gl : List (Nat × AV)) {a b c d : Int} (h1 : Qn a b) (h2 : Qn c d) : Spec Tryz.prog gl 124 [mkR a b,mkR c d] (.bool true) :=
 rboth_walk gl (r2valid_int gl h1.1 h1.2.1 h1.2.2.1 h1.2.2.2) (r2valid_int gl h2.1 h2.2.1 h2.2.2.1 h2.2.2.2)
theorem rqmul_tot (gl : List (Nat × AV)) {a b c d : Int} (h1 : Qn a b) (h2 : Qn c d) : Spec Tryz.prog gl 84 [mkR a b,mkR c d] (mulR a b c d):=by
 have bo:=rqboth gl h1 h2
 obtain ⟨ha,hb,b0,g1⟩:=h1
 obtain ⟨hc,hd,d0,g2⟩:=h2
 have m1:=rmul_tot gl ha hc
 have m2:=rmul_tot gl hb hd
 unfold mulR
 cases e1 : ftB (a * c) with
 | false => rw [resZ_bad (ftB_no e1)] at m1; exact rqmul_1 gl bo m1
 | true =>
 rw [resZ_ok (ftB_iff.1 e1)] at m1
 cases e2 : ftB (b * d) with
 | false => rw [resZ_bad (ftB_no e2)] at m2; exact rqmul_2 gl bo m1 m2
 | true =>
 rw [resZ_ok (ftB_iff.1 e2)] at m2
 exact rqmul_0 gl bo m1 m2 (lowest_int gl (ftB_iff.1 e1) (ftB_iff.1 e2) (Int.mul_pos b0 d0))
theorem rqadd_tot (gl : List (Nat × AV)) {a b c d : Int} (h1 : Qn a b) (h2 : Qn c d) : Spec Tryz.prog gl 85 [mkR a b,mkR c d] (addR a b c d):=by
 have bo:=rqboth gl h1 h2
 obtain ⟨ha,hb,b0,g1⟩:=h1
 obtain ⟨hc,hd,d0,g2⟩:=h2
 have m1:=rmul_tot gl ha hd
 have m2:=rmul_tot gl hc hb
 have m3:=rmul_tot gl hb hd
 unfold addR
 cases e1 : ftB (a * d) with
 | false => rw [resZ_bad (ftB_no e1)] at m1; exact rqadd_1 gl bo m1
 | true =>
 rw [resZ_ok (ftB_iff.1 e1)] at m1
 cases e2 : ftB (c * b) with
 | false => rw [resZ_bad (ftB_no e2)] at m2; exact rqadd_2 gl bo m1 m2
 | true =>
 rw [resZ_ok (ftB_iff.1 e2)] at m2
 have a1:=radd_tot gl (ftB_iff.1 e1) (ftB_iff.1 e2)
 cases e3 : ftB (a * d + c * b) with
 | false => rw [resZ_bad (ftB_no e3)] at a1; exact rqadd_3 gl bo m1 m2 a1
 | true =>
 rw [resZ_ok (ftB_iff.1 e3)] at a1
 cases e4 : ftB (b * d) with
 | false => rw [resZ_bad (ftB_no e4)] at m3; exact rqadd_4 gl bo m1 m2 a1 m3
 | true =>
 rw [resZ_ok (ftB_iff.1 e4)] at m3
 exact rqadd_0 gl bo m1 m2 a1 m3 (lowest_int gl (ftB_iff.1 e3) (ftB_iff.1 e4) (Int.mul_pos b0 d0))
theorem rqsub_tot (gl : List (Nat × AV)) {a b c d : Int} (h1 : Qn a b) (h2 : Qn c d) : Spec Tryz.prog gl 83 [mkR a b,mkR c d] (subR a b c d):=by
 have bo:=rqboth gl h1 h2
 obtain ⟨ha,hb,b0,g1⟩:=h1
 obtain ⟨hc,hd,d0,g2⟩:=h2
 have m1:=rmul_tot gl ha hd
 have m2:=rmul_tot gl hc hb
 have m3:=rmul_tot gl hb hd
 have ng:=rneg_int gl (c * b)
 unfold subR
 cases e1 : ftB (a * d) with
 | false => rw [resZ_bad (ftB_no e1)] at m1; exact rqsub_1 gl bo m1
 | true =>
 rw [resZ_ok (ftB_iff.1 e1)] at m1
 cases e2 : ftB (c * b) with
 | false => rw [resZ_bad (ftB_no e2)] at m2; exact rqsub_2 gl bo m1 m2
 | true =>
 rw [resZ_ok (ftB_iff.1 e2)] at m2
 have a1:=radd_tot gl (ftB_iff.1 e1) (fits_neg (ftB_iff.1 e2))
 rw [show a * d + -(c * b) = a * d - c * b by omega] at a1
 cases e3 : ftB (a * d - c * b) with
 | false => rw [resZ_bad (ftB_no e3)] at a1; exact rqsub_3 gl bo m1 m2 ng a1
 | true =>
 rw [resZ_ok (ftB_iff.1 e3)] at a1
 cases e4 : ftB (b * d) with
 | false => rw [resZ_bad (ftB_no e4)] at m3; exact rqsub_4 gl bo m1 m2 ng a1 m3
 | true =>
 rw [resZ_ok (ftB_iff.1 e4)] at m3
 exact rqsub_0 gl bo m1 m2 ng a1 m3 (lowest_int gl (ftB_iff.1 e3) (ftB_iff.1 e4) (Int.mul_pos b0 d0))
end Ab
