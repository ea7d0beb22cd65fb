import Derived.Test.YtbcgkonhkoopnaaGreatXBoxOps
open Go Go.Proofs
namespace Ab
set_option maxRecDepth 100000
def subF (x y : Bx) : Bx := applyF addF x (applyF (fun a _ => negF a) y y)
theorem sub_spec (x y : Bx) : Spec Tryz.prog [] 27 [x.av, y.av] (subF x y).av := by
 unfold subF
 have s1 := neg_spec y
 generalize applyF (fun a _ => negF a) y y = n at s1 ⊢
 have s2 := add_spec x n
 generalize applyF addF x n = z at s2 ⊢
 refine spec_fn T_ok mixed_ok 1 Tryz.func27 fn_ok27 (by kernel_rfl) ?_
 refine And.intro (by kernel_rfl) ?_
 refine And.intro rfl ?_
 first | refine Exists.intro _ (And.intro (s1) ?_) | refine Hn_by (Exists.intro _ (And.intro (s1) ?_))
 first | refine Exists.intro _ (And.intro (s2) ?_) | refine Hn_by (Exists.intro _ (And.intro (s2) ?_))
 exact And.intro (Or.inr rfl) rfl
def mx (a b : Int) : Int := if a < b then b else a
def mn (a b : Int) : Int := if b < a then b else a
def meetsC (x y : Bx) : Bool := or x.w (or y.w (decide (mx x.a y.a <= mn x.b y.b ∧ mx x.c y.c <= mn x.d y.d)))
def meetsF (x y : Bx) : Bool := meetsC (checkedF x) (checkedF y)
theorem meets_spec (x y : Bx) : Spec Tryz.prog [] 21 [x.av, y.av] (.bool (meetsF x y)) := by
 have sx := checked_spec x
 have sy := checked_spec y
 unfold meetsF
 generalize checkedF x = cx at sx ⊢
 generalize checkedF y = cy at sy ⊢
 obtain ⟨ca, cb, cc, cd, cw⟩ := cx
 obtain ⟨da, db, dc, dd, dw⟩ := cy
 refine spec_fn T_ok mixed_ok 1 Tryz.func21 fn_ok21 (by kernel_rfl) ?_
 refine And.intro (by kernel_rfl) ?_
 first | refine Exists.intro _ (And.intro (sx) ?_) | refine Hn_by (Exists.intro _ (And.intro (sx) ?_))
 refine And.intro rfl ?_
 first | refine Exists.intro _ (And.intro (sy) ?_) | refine Hn_by (Exists.intro _ (And.intro (sy) ?_))
 cases cw with
 | true =>
  repeat (first | refine gT ?_ | refine gF ?_ | refine brT ?_ | refine brF ?_)
  exact And.intro (Or.inr rfl) rfl
 | false =>
  cases dw with
  | true =>
   repeat (first | refine gT ?_ | refine gF ?_ | refine brT ?_ | refine brF ?_)
   exact And.intro (Or.inr rfl) rfl
  | false =>
   repeat (first | refine gT ?_ | refine gF ?_ | refine brT ?_ | refine brF ?_)
   refine br (fun h1 => ?_) (fun h1 => ?_)
   ·repeat (first | refine gT ?_ | refine gF ?_ | refine brT ?_ | refine brF ?_)
    exact And.intro (Or.inr rfl) (congrArg AV.bool (decide_eq_decide.2 ⟨fun h => ⟨h1, h⟩, fun h => h.2⟩))
   ·repeat (first | refine gT ?_ | refine gF ?_ | refine brT ?_ | refine brF ?_)
    exact And.intro (Or.inr rfl) (congrArg AV.bool (decide_eq_false fun h => h1 h.1).symm)
theorem zero_spec (x : Bx) : Spec Tryz.prog [] 17 [x.av] (.bool (meetsF x ⟨0, 0, 0, 0, false⟩)) := by
 have s := meets_spec x ⟨0, 0, 0, 0, false⟩
 generalize meetsF x ⟨0, 0, 0, 0, false⟩ = r at s ⊢
 refine spec_fn T_ok mixed_ok 1 Tryz.func17 fn_ok17 (by kernel_rfl) ?_
 first | refine Exists.intro _ (And.intro (s) ?_) | refine Hn_by (Exists.intro _ (And.intro (s) ?_))
 exact And.intro (Or.inr rfl) rfl
def eqB5 (x y : Bx) : Bool := and (x.a == y.a) (and (x.b == y.b) (and (x.c == y.c) (and (x.d == y.d) (and (x.w == y.w) true))))
def insideF (x y : Bx) : Bool := or (checkedF y).w (eqB5 (applyF hullF x (checkedF y)) (checkedF y))
theorem inside_spec (x y : Bx) : Spec Tryz.prog [] 20 [x.av, y.av] (.bool (insideF x y)) := by
 have sy := checked_spec y
 unfold insideF
 generalize checkedF y = cy at sy ⊢
 have sh := hull_spec x cy
 generalize applyF hullF x cy = h at sh ⊢
 obtain ⟨ha, hb, hc, hd, hw⟩ := h
 obtain ⟨da, db, dc, dd, dw⟩ := cy
 refine spec_fn T_ok mixed_ok 1 Tryz.func20 fn_ok20 (by kernel_rfl) ?_
 first | refine Exists.intro _ (And.intro (sy) ?_) | refine Hn_by (Exists.intro _ (And.intro (sy) ?_))
 cases dw with
 | true =>
  refine And.intro (by kernel_rfl) ?_
  repeat (first | refine gT ?_ | refine gF ?_ | refine brT ?_ | refine brF ?_)
  exact And.intro (Or.inr rfl) rfl
 | false =>
  refine And.intro (by kernel_rfl) ?_
  repeat (first | refine gT ?_ | refine gF ?_ | refine brT ?_ | refine brF ?_)
  first | refine Exists.intro _ (And.intro (sh) ?_) | refine Hn_by (Exists.intro _ (And.intro (sh) ?_))
  repeat (first | refine gT ?_ | refine gF ?_ | refine brT ?_ | refine brF ?_)
  refine And.intro rfl ?_
  repeat (first | refine gT ?_ | refine gF ?_ | refine brT ?_ | refine brF ?_)
  exact And.intro (Or.inr rfl) rfl
end Ab
