import Derived.Test.YtbcgkonhkoopnaaGreatXValid
open Go Go.Proofs
namespace Ab
set_option maxRecDepth 100000
set_option maxHeartbeats 400000
theorem gB {b : Bool} {A B : Prop} (h1 : b = true -> B) (h2 : b = false -> A) : (b = false -> A) ∧ (b = true -> B) := ⟨h2, h1⟩
structure Bx where
 a : Int
 b : Int
 c : Int
 d : Int
 w : Bool
abbrev Bx.av (x : Bx) : AV := bx x.a x.b x.c x.d x.w
def Bx.ok (x : Bx) : Bool := validF x.a x.b x.c x.d x.w
def wideB : Bx := ⟨0, 0, 0, 0, true⟩
def checkedF (x : Bx) : Bx := match x.ok with | true => x | false => wideB
theorem checked_spec (x : Bx) : Spec Tryz.prog [] 55 [x.av] (checkedF x).av := by
 refine spec_fn T_ok mixed_ok 1 Tryz.func55 fn_ok55 (by kernel_rfl) ?_
 first | refine Exists.intro _ (And.intro (valid_spec x.a x.b x.c x.d x.w) ?_) | refine Hn_by (Exists.intro _ (And.intro (valid_spec x.a x.b x.c x.d x.w) ?_))
 refine brB (fun h => ?_) (fun h => ?_)
 ·refine And.intro (Or.inr rfl) ?_
  have : checkedF x = x := by unfold checkedF Bx.ok; rw [h]
  rw [this]
  rfl
 ·first | refine Exists.intro _ (And.intro (wide_spec) ?_) | refine Hn_by (Exists.intro _ (And.intro (wide_spec) ?_))
  refine And.intro (Or.inr rfl) ?_
  have : checkedF x = wideB := by unfold checkedF Bx.ok; rw [h]
  rw [this]
  rfl
attribute [irreducible] checkedF
def applyF (g : Bx -> Bx -> Bx) (x y : Bx) : Bx :=
 match (checkedF x).w with
 | true => wideB
 | false => match (checkedF y).w with
  | true => wideB
  | false => checkedF (g (checkedF x) (checkedF y))
def hullF (x y : Bx) : Bx := ⟨if y.a < x.a then y.a else x.a, if x.b < y.b then y.b else x.b, if y.c < x.c then y.c else x.c, if x.d < y.d then y.d else x.d, false⟩
def addF (x y : Bx) : Bx := ⟨w64 (x.a + y.a), w64 (x.b + y.b), w64 (x.c + y.c), w64 (x.d + y.d), false⟩
theorem hull_spec (x y : Bx) : Spec Tryz.prog [] 28 [x.av, y.av] (applyF hullF x y).av := by
 have sx := checked_spec x
 have sy := checked_spec y
 unfold applyF
 generalize checkedF x = cx at sx ⊢
 generalize checkedF y = cy at sy ⊢
 have sz := checked_spec (hullF cx cy)
 generalize checkedF (hullF cx cy) = z at sz ⊢
 obtain ⟨ca, cb, cc, cd, cw⟩ := cx
 obtain ⟨da, db, dc, dd, dw⟩ := cy
 obtain ⟨za, zb, zc, zd, zw⟩ := z
 cases cw with
 | true =>
  refine spec_fn T_ok mixed_ok 3 Tryz.func28 fn_ok28 (by kernel_rfl) ?_
  refine Hn_in Tryz.f43 Tryz.func43 fn_ok43 (by kernel_rfl) ?_
  refine And.intro (by kernel_rfl) ?_
  first | refine Exists.intro _ (And.intro (sx) ?_) | refine Hn_by (Exists.intro _ (And.intro (sx) ?_))
  refine And.intro rfl ?_
  first | refine Exists.intro _ (And.intro (sy) ?_) | refine Hn_by (Exists.intro _ (And.intro (sy) ?_))
  repeat (first | refine gT ?_ | refine gF ?_ | refine brT ?_ | refine brF ?_)
  first | refine Exists.intro _ (And.intro (wide_spec) ?_) | refine Hn_by (Exists.intro _ (And.intro (wide_spec) ?_))
  refine And.intro (Or.inr rfl) ?_
  refine And.intro (Or.inr rfl) ?_
  rfl
 | false =>
  cases dw with
  | true =>
   refine spec_fn T_ok mixed_ok 3 Tryz.func28 fn_ok28 (by kernel_rfl) ?_
   refine Hn_in Tryz.f43 Tryz.func43 fn_ok43 (by kernel_rfl) ?_
   refine And.intro (by kernel_rfl) ?_
   first | refine Exists.intro _ (And.intro (sx) ?_) | refine Hn_by (Exists.intro _ (And.intro (sx) ?_))
   refine And.intro rfl ?_
   first | refine Exists.intro _ (And.intro (sy) ?_) | refine Hn_by (Exists.intro _ (And.intro (sy) ?_))
   repeat (first | refine gT ?_ | refine gF ?_ | refine brT ?_ | refine brF ?_)
   first | refine Exists.intro _ (And.intro (wide_spec) ?_) | refine Hn_by (Exists.intro _ (And.intro (wide_spec) ?_))
   refine And.intro (Or.inr rfl) ?_
   refine And.intro (Or.inr rfl) ?_
   rfl
  | false =>
   refine spec_fn T_ok mixed_ok 3 Tryz.func28 fn_ok28 (by kernel_rfl) ?_
   refine Hn_in Tryz.f43 Tryz.func43 fn_ok43 (by kernel_rfl) ?_
   refine And.intro (by kernel_rfl) ?_
   first | refine Exists.intro _ (And.intro (sx) ?_) | refine Hn_by (Exists.intro _ (And.intro (sx) ?_))
   refine And.intro rfl ?_
   first | refine Exists.intro _ (And.intro (sy) ?_) | refine Hn_by (Exists.intro _ (And.intro (sy) ?_))
   repeat (first | refine gT ?_ | refine gF ?_ | refine brT ?_ | refine brF ?_)
   refine Hn_in Tryz.f78 Tryz.func78 fn_ok78 (by kernel_rfl) ?_
   refine And.intro (Or.inr rfl) ?_
   first | refine Exists.intro _ (And.intro (sz) ?_) | refine Hn_by (Exists.intro _ (And.intro (sz) ?_))
   refine And.intro (Or.inr rfl) ?_
   refine And.intro (Or.inr rfl) ?_
   rfl
theorem add_spec (x y : Bx) : Spec Tryz.prog [] 13 [x.av, y.av] (applyF addF x y).av := by
 have sx := checked_spec x
 have sy := checked_spec y
 unfold applyF
 generalize checkedF x = cx at sx ⊢
 generalize checkedF y = cy at sy ⊢
 have sz := checked_spec (addF cx cy)
 generalize checkedF (addF cx cy) = z at sz ⊢
 obtain ⟨ca, cb, cc, cd, cw⟩ := cx
 obtain ⟨da, db, dc, dd, dw⟩ := cy
 obtain ⟨za, zb, zc, zd, zw⟩ := z
 cases cw with
 | true =>
  refine spec_fn T_ok mixed_ok 3 Tryz.func13 fn_ok13 (by kernel_rfl) ?_
  refine Hn_in Tryz.f43 Tryz.func43 fn_ok43 (by kernel_rfl) ?_
  refine And.intro (by kernel_rfl) ?_
  first | refine Exists.intro _ (And.intro (sx) ?_) | refine Hn_by (Exists.intro _ (And.intro (sx) ?_))
  refine And.intro rfl ?_
  first | refine Exists.intro _ (And.intro (sy) ?_) | refine Hn_by (Exists.intro _ (And.intro (sy) ?_))
  repeat (first | refine gT ?_ | refine gF ?_ | refine brT ?_ | refine brF ?_)
  first | refine Exists.intro _ (And.intro (wide_spec) ?_) | refine Hn_by (Exists.intro _ (And.intro (wide_spec) ?_))
  refine And.intro (Or.inr rfl) ?_
  refine And.intro (Or.inr rfl) ?_
  rfl
 | false =>
  cases dw with
  | true =>
   refine spec_fn T_ok mixed_ok 3 Tryz.func13 fn_ok13 (by kernel_rfl) ?_
   refine Hn_in Tryz.f43 Tryz.func43 fn_ok43 (by kernel_rfl) ?_
   refine And.intro (by kernel_rfl) ?_
   first | refine Exists.intro _ (And.intro (sx) ?_) | refine Hn_by (Exists.intro _ (And.intro (sx) ?_))
   refine And.intro rfl ?_
   first | refine Exists.intro _ (And.intro (sy) ?_) | refine Hn_by (Exists.intro _ (And.intro (sy) ?_))
   repeat (first | refine gT ?_ | refine gF ?_ | refine brT ?_ | refine brF ?_)
   first | refine Exists.intro _ (And.intro (wide_spec) ?_) | refine Hn_by (Exists.intro _ (And.intro (wide_spec) ?_))
   refine And.intro (Or.inr rfl) ?_
   refine And.intro (Or.inr rfl) ?_
   rfl
  | false =>
   refine spec_fn T_ok mixed_ok 3 Tryz.func13 fn_ok13 (by kernel_rfl) ?_
   refine Hn_in Tryz.f43 Tryz.func43 fn_ok43 (by kernel_rfl) ?_
   refine And.intro (by kernel_rfl) ?_
   first | refine Exists.intro _ (And.intro (sx) ?_) | refine Hn_by (Exists.intro _ (And.intro (sx) ?_))
   refine And.intro rfl ?_
   first | refine Exists.intro _ (And.intro (sy) ?_) | refine Hn_by (Exists.intro _ (And.intro (sy) ?_))
   repeat (first | refine gT ?_ | refine gF ?_ | refine brT ?_ | refine brF ?_)
   refine Hn_in Tryz.f44 Tryz.func44 fn_ok44 (by kernel_rfl) ?_
   refine And.intro (Or.inr rfl) ?_
   first | refine Exists.intro _ (And.intro (sz) ?_) | refine Hn_by (Exists.intro _ (And.intro (sz) ?_))
   refine And.intro (Or.inr rfl) ?_
   refine And.intro (Or.inr rfl) ?_
   rfl
def negF (x : Bx) : Bx := ⟨w64 (0 - x.b), w64 (0 - x.a), w64 (0 - x.d), w64 (0 - x.c), false⟩
theorem neg_spec (x : Bx) : Spec Tryz.prog [] 16 [x.av] (applyF (fun a _ => negF a) x x).av := by
 have sx := checked_spec x
 unfold applyF
 generalize checkedF x = cx at sx ⊢
 have sz := checked_spec (negF cx)
 generalize checkedF (negF cx) = z at sz ⊢
 obtain ⟨ca, cb, cc, cd, cw⟩ := cx
 obtain ⟨za, zb, zc, zd, zw⟩ := z
 cases cw with
 | true =>
  refine spec_fn T_ok mixed_ok 4 Tryz.func16 fn_ok16 (by kernel_rfl) ?_
  refine Hn_in Tryz.f43 Tryz.func43 fn_ok43 (by kernel_rfl) ?_
  refine And.intro (by kernel_rfl) ?_
  first | refine Exists.intro _ (And.intro (sx) ?_) | refine Hn_by (Exists.intro _ (And.intro (sx) ?_))
  refine And.intro rfl ?_
  first | refine Exists.intro _ (And.intro (sx) ?_) | refine Hn_by (Exists.intro _ (And.intro (sx) ?_))
  repeat (first | refine gT ?_ | refine gF ?_ | refine brT ?_ | refine brF ?_)
  first | refine Exists.intro _ (And.intro (wide_spec) ?_) | refine Hn_by (Exists.intro _ (And.intro (wide_spec) ?_))
  refine And.intro (Or.inr rfl) ?_
  refine And.intro (Or.inr rfl) ?_
  rfl
 | false =>
  refine spec_fn T_ok mixed_ok 4 Tryz.func16 fn_ok16 (by kernel_rfl) ?_
  refine Hn_in Tryz.f43 Tryz.func43 fn_ok43 (by kernel_rfl) ?_
  refine And.intro (by kernel_rfl) ?_
  first | refine Exists.intro _ (And.intro (sx) ?_) | refine Hn_by (Exists.intro _ (And.intro (sx) ?_))
  refine And.intro rfl ?_
  first | refine Exists.intro _ (And.intro (sx) ?_) | refine Hn_by (Exists.intro _ (And.intro (sx) ?_))
  repeat (first | refine gT ?_ | refine gF ?_ | refine brT ?_ | refine brF ?_)
  refine Hn_in Tryz.f52 Tryz.func52 fn_ok52 (by kernel_rfl) ?_
  refine Hn_in Tryz.f49 Tryz.func49 fn_ok49 (by kernel_rfl) ?_
  refine And.intro (Or.inr rfl) ?_
  refine And.intro (Or.inr rfl) ?_
  first | refine Exists.intro _ (And.intro (sz) ?_) | refine Hn_by (Exists.intro _ (And.intro (sz) ?_))
  refine And.intro (Or.inr rfl) ?_
  refine And.intro (Or.inr rfl) ?_
  rfl
end Ab
