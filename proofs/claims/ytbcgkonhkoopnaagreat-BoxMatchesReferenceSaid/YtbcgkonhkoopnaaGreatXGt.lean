import Derived.Test.YtbcgkonhkoopnaaGreatXMulQ
import Derived.Test.YtbcgkonhkoopnaaGreatXOrderP
import Derived.Test.YtbcgkonhkoopnaaGreatXOrder
import Derived.Test.YtbcgkonhkoopnaaGreatXGs
import Derived.Test.YtbcgkonhkoopnaaGreatXFloor
import Derived.Test.YtbcgkonhkoopnaaGreatXSm
import Derived.Test.YtbcgkonhkoopnaaGreatXMulBox
import Derived.Test.YtbcgkonhkoopnaaGreatXSqrtS
import Derived.Test.YtbcgkonhkoopnaaGreatXExact
section
open Go Go.Proofs
namespace Ab
set_option maxRecDepth 100000
set_option maxHeartbeats 1000000
def fitB (n : Int) : Bool := decide (-MF <= n ∧ n <= MF)
theorem fits_spec (n : Int) : Spec Tryz.prog [] 62 [.int .i64 n] (.bool (fitB n)) := by
 refine spec_fn T_ok mixed_ok 0 Tryz.func62 fn_ok62 (by kernel_rfl) ?_
 refine br (fun h1 => ?_) (fun h1 => ?_)
 ·repeat (first | refine gT ?_ | refine gF ?_ | refine brT ?_ | refine brF ?_)
  refine And.intro (Or.inr rfl) (congrArg AV.bool ?_)
  have h1' : n ≥ -1152921504606846976 := h1
  unfold fitB MF
  exact decide_eq_decide.2 ⟨fun h => ⟨by omega, h⟩, fun h => h.2⟩
 ·repeat (first | refine gT ?_ | refine gF ?_ | refine brT ?_ | refine brF ?_)
  refine And.intro (Or.inr rfl) (congrArg AV.bool ?_)
  have h1' : ¬ n ≥ -1152921504606846976 := h1
  unfold fitB MF
  exact (decide_eq_false (fun h => h1' (by omega))).symm
def all6 (a b c d : Bool) (p q : Bool) : Bool := match a with
 | false => false
 | true => match b with
  | false => false
  | true => match c with
   | false => false
   | true => match d with
    | false => false
    | true => match p with
          | false => false
          | true => q
theorem all6_iff {a b c d p q : Bool} : all6 a b c d p q = true ↔ a = true ∧ b = true ∧ c = true ∧ d = true ∧ p = true ∧ q = true := by
 cases a <;> cases b <;> cases c <;> cases d <;> cases p <;> simp [all6]
theorem valid16_walk (a b c d : Int) (fa fb fc fd : Bool) (s1 : Spec Tryz.prog [] 62 [.int .i64 a] (.bool fa)) (s2 : Spec Tryz.prog [] 62 [.int .i64 b] (.bool fb)) (s3 : Spec Tryz.prog [] 62 [.int .i64 c] (.bool fc)) (s4 : Spec Tryz.prog [] 62 [.int .i64 d] (.bool fd)) :
  Spec Tryz.prog [] 69 [bx a b c d false] (.bool (all6 fa fb fc fd (decide (a <= b)) (decide (c <= d)))) := by
 cases fa with
 | false =>
  refine spec_fn T_ok mixed_ok 0 Tryz.func69 fn_ok69 (by kernel_rfl) ?_
  repeat (first | refine gT ?_ | refine gF ?_ | refine brT ?_ | refine brF ?_)
  first | refine Exists.intro _ (And.intro (s1) ?_) | refine Hn_by (Exists.intro _ (And.intro (s1) ?_))
  repeat (first | refine gT ?_ | refine gF ?_ | refine brT ?_ | refine brF ?_)
  exact And.intro (Or.inr rfl) rfl
 | true =>
 cases fb with
 | false =>
  refine spec_fn T_ok mixed_ok 0 Tryz.func69 fn_ok69 (by kernel_rfl) ?_
  repeat (first | refine gT ?_ | refine gF ?_ | refine brT ?_ | refine brF ?_)
  first | refine Exists.intro _ (And.intro (s1) ?_) | refine Hn_by (Exists.intro _ (And.intro (s1) ?_))
  repeat (first | refine gT ?_ | refine gF ?_ | refine brT ?_ | refine brF ?_)
  first | refine Exists.intro _ (And.intro (s2) ?_) | refine Hn_by (Exists.intro _ (And.intro (s2) ?_))
  repeat (first | refine gT ?_ | refine gF ?_ | refine brT ?_ | refine brF ?_)
  exact And.intro (Or.inr rfl) rfl
 | true =>
 cases fc with
 | false =>
  refine spec_fn T_ok mixed_ok 0 Tryz.func69 fn_ok69 (by kernel_rfl) ?_
  repeat (first | refine gT ?_ | refine gF ?_ | refine brT ?_ | refine brF ?_)
  first | refine Exists.intro _ (And.intro (s1) ?_) | refine Hn_by (Exists.intro _ (And.intro (s1) ?_))
  repeat (first | refine gT ?_ | refine gF ?_ | refine brT ?_ | refine brF ?_)
  first | refine Exists.intro _ (And.intro (s2) ?_) | refine Hn_by (Exists.intro _ (And.intro (s2) ?_))
  repeat (first | refine gT ?_ | refine gF ?_ | refine brT ?_ | refine brF ?_)
  first | refine Exists.intro _ (And.intro (s3) ?_) | refine Hn_by (Exists.intro _ (And.intro (s3) ?_))
  repeat (first | refine gT ?_ | refine gF ?_ | refine brT ?_ | refine brF ?_)
  exact And.intro (Or.inr rfl) rfl
 | true =>
 cases fd with
 | false =>
  refine spec_fn T_ok mixed_ok 0 Tryz.func69 fn_ok69 (by kernel_rfl) ?_
  repeat (first | refine gT ?_ | refine gF ?_ | refine brT ?_ | refine brF ?_)
  first | refine Exists.intro _ (And.intro (s1) ?_) | refine Hn_by (Exists.intro _ (And.intro (s1) ?_))
  repeat (first | refine gT ?_ | refine gF ?_ | refine brT ?_ | refine brF ?_)
  first | refine Exists.intro _ (And.intro (s2) ?_) | refine Hn_by (Exists.intro _ (And.intro (s2) ?_))
  repeat (first | refine gT ?_ | refine gF ?_ | refine brT ?_ | refine brF ?_)
  first | refine Exists.intro _ (And.intro (s3) ?_) | refine Hn_by (Exists.intro _ (And.intro (s3) ?_))
  repeat (first | refine gT ?_ | refine gF ?_ | refine brT ?_ | refine brF ?_)
  first | refine Exists.intro _ (And.intro (s4) ?_) | refine Hn_by (Exists.intro _ (And.intro (s4) ?_))
  repeat (first | refine gT ?_ | refine gF ?_ | refine brT ?_ | refine brF ?_)
  exact And.intro (Or.inr rfl) rfl
 | true =>
  show Spec Tryz.prog [] 69 [bx a b c d false] (.bool (match decide (a <= b) with | false => false | true => decide (c <= d)))
  refine spec_fn T_ok mixed_ok 0 Tryz.func69 fn_ok69 (by kernel_rfl) ?_
  repeat (first | refine gT ?_ | refine gF ?_ | refine brT ?_ | refine brF ?_)
  first | refine Exists.intro _ (And.intro (s1) ?_) | refine Hn_by (Exists.intro _ (And.intro (s1) ?_))
  repeat (first | refine gT ?_ | refine gF ?_ | refine brT ?_ | refine brF ?_)
  first | refine Exists.intro _ (And.intro (s2) ?_) | refine Hn_by (Exists.intro _ (And.intro (s2) ?_))
  repeat (first | refine gT ?_ | refine gF ?_ | refine brT ?_ | refine brF ?_)
  first | refine Exists.intro _ (And.intro (s3) ?_) | refine Hn_by (Exists.intro _ (And.intro (s3) ?_))
  repeat (first | refine gT ?_ | refine gF ?_ | refine brT ?_ | refine brF ?_)
  first | refine Exists.intro _ (And.intro (s4) ?_) | refine Hn_by (Exists.intro _ (And.intro (s4) ?_))
  repeat (first | refine gT ?_ | refine gF ?_ | refine brT ?_ | refine brF ?_)
  refine br (fun h => ?_) (fun h => ?_)
  ·repeat (first | refine gT ?_ | refine gF ?_ | refine brT ?_ | refine brF ?_)
   rw [decide_eq_true (show a <= b from h)]
   exact And.intro (Or.inr rfl) rfl
  ·repeat (first | refine gT ?_ | refine gF ?_ | refine brT ?_ | refine brF ?_)
   rw [decide_eq_false (show ¬ a <= b from h)]
   exact And.intro (Or.inr rfl) rfl
theorem valid16_wide (a b c d : Int) : Spec Tryz.prog [] 69 [bx a b c d true] (.bool (validF a b c d true)) := by
 refine spec_fn T_ok mixed_ok 0 Tryz.func69 fn_ok69 (by kernel_rfl) ?_
 repeat (first | refine gT ?_ | refine gF ?_ | refine brT ?_ | refine brF ?_)
 exact And.intro (Or.inr rfl) rfl
theorem validF_eq (a b c d : Int) : all6 (fitB a) (fitB b) (fitB c) (fitB d) (decide (a <= b)) (decide (c <= d)) = validF a b c d false := by
 obtain ⟨m1, m2, m3, m4, m5⟩ := minL3 a b c d
 obtain ⟨n1, n2, n3, n4, n5⟩ := maxL3 a b c d
 rw [Bool.eq_iff_iff, all6_iff]
 unfold validF fitB
 simp only [decide_eq_true_eq]
 constructor
 ·rintro ⟨⟨_, _⟩, ⟨_, _⟩, ⟨_, _⟩, ⟨_, _⟩, _, _⟩
  refine ⟨by omega, by omega, by omega, by omega⟩
 ·rintro ⟨h1, h2, h3, h4⟩
  refine ⟨⟨by omega, by omega⟩, ⟨by omega, by omega⟩, ⟨by omega, by omega⟩, ⟨by omega, by omega⟩, h1, h2⟩
theorem valid16_spec (x : Bx) : Spec Tryz.prog [] 69 [x.av] (.bool x.ok) := by
 obtain ⟨a, b, c, d, w⟩ := x
 show Spec Tryz.prog [] 69 [bx a b c d w] (.bool (validF a b c d w))
 cases w with
 | true => exact valid16_wide a b c d
 | false =>
  rw [<- validF_eq]
  exact valid16_walk a b c d _ _ _ _ (fits_spec a) (fits_spec b) (fits_spec c) (fits_spec d)
theorem wide16_spec (x : Bx) : Spec Tryz.prog [] 119 [x.av] (.bool (checkedF x).w) := by
 have v := valid16_spec x
 have hw : (checkedF x).w = (match x.w with | true => true | false => !x.ok) := by
  rcases checked_cases x with e | ⟨e, hv⟩
  ·rw [e]
   cases hx : x.w with
   | true => rfl
   | false =>
    cases ho : x.ok with
    | false => rfl
    | true =>
       rw [checked_of ho] at e
       rw [e] at hx
       exact absurd hx (by decide)
  ·rw [e, hv.1, hv.ok]; rfl
 rw [hw]
 obtain ⟨a, b, c, d, w⟩ := x
 generalize Bx.ok ⟨a, b, c, d, w⟩ = o at v ⊢
 cases w with
 | true =>
  refine spec_fn T_ok mixed_ok 0 Tryz.func119 fn_ok119 (by kernel_rfl) ?_
  repeat (first | refine gT ?_ | refine gF ?_ | refine brT ?_ | refine brF ?_)
  exact And.intro (Or.inr rfl) rfl
 | false =>
  refine spec_fn T_ok mixed_ok 0 Tryz.func119 fn_ok119 (by kernel_rfl) ?_
  repeat (first | refine gT ?_ | refine gF ?_ | refine brT ?_ | refine brF ?_)
  first | refine Exists.intro _ (And.intro (v) ?_) | refine Hn_by (Exists.intro _ (And.intro (v) ?_))
  repeat (first | refine gT ?_ | refine gF ?_ | refine brT ?_ | refine brF ?_)
  exact And.intro (Or.inr rfl) rfl
theorem wide_true {x : Bx} (h : checkedF x = wideB) : Spec Tryz.prog [] 119 [x.av] (.bool true) := by
 have := wide16_spec x
 rwa [h] at this
theorem wide_false {x : Bx} (h : Vb x) : Spec Tryz.prog [] 119 [x.av] (.bool false) := by
 have := wide16_spec x
 rwa [h.checked, h.1] at this
def madeB (a b c d : Int) : Bx := match all6 (fitB a) (fitB b) (fitB c) (fitB d) true true with | true => ⟨a, b, c, d, false⟩ | false => wideB
theorem made16_walk (a b c d : Int) (fa fb fc fd : Bool) (s1 : Spec Tryz.prog [] 62 [.int .i64 a] (.bool fa)) (s2 : Spec Tryz.prog [] 62 [.int .i64 b] (.bool fb)) (s3 : Spec Tryz.prog [] 62 [.int .i64 c] (.bool fc)) (s4 : Spec Tryz.prog [] 62 [.int .i64 d] (.bool fd)) :
  Spec Tryz.prog [] 120 [.int .i64 a, .int .i64 b, .int .i64 c, .int .i64 d] (Bx.av (match all6 fa fb fc fd true true with | true => ⟨a, b, c, d, false⟩ | false => wideB)) := by
 cases fa with
 | false =>
  refine spec_fn T_ok mixed_ok 0 Tryz.func120 fn_ok120 (by kernel_rfl) ?_
  first | refine Exists.intro _ (And.intro (s1) ?_) | refine Hn_by (Exists.intro _ (And.intro (s1) ?_))
  repeat (first | refine gT ?_ | refine gF ?_ | refine brT ?_ | refine brF ?_)
  exact And.intro (Or.inr rfl) rfl
 | true =>
 cases fb with
 | false =>
  refine spec_fn T_ok mixed_ok 0 Tryz.func120 fn_ok120 (by kernel_rfl) ?_
  first | refine Exists.intro _ (And.intro (s1) ?_) | refine Hn_by (Exists.intro _ (And.intro (s1) ?_))
  repeat (first | refine gT ?_ | refine gF ?_ | refine brT ?_ | refine brF ?_)
  first | refine Exists.intro _ (And.intro (s2) ?_) | refine Hn_by (Exists.intro _ (And.intro (s2) ?_))
  repeat (first | refine gT ?_ | refine gF ?_ | refine brT ?_ | refine brF ?_)
  exact And.intro (Or.inr rfl) rfl
 | true =>
 cases fc with
 | false =>
  refine spec_fn T_ok mixed_ok 0 Tryz.func120 fn_ok120 (by kernel_rfl) ?_
  first | refine Exists.intro _ (And.intro (s1) ?_) | refine Hn_by (Exists.intro _ (And.intro (s1) ?_))
  repeat (first | refine gT ?_ | refine gF ?_ | refine brT ?_ | refine brF ?_)
  first | refine Exists.intro _ (And.intro (s2) ?_) | refine Hn_by (Exists.intro _ (And.intro (s2) ?_))
  repeat (first | refine gT ?_ | refine gF ?_ | refine brT ?_ | refine brF ?_)
  first | refine Exists.intro _ (And.intro (s3) ?_) | refine Hn_by (Exists.intro _ (And.intro (s3) ?_))
  repeat (first | refine gT ?_ | refine gF ?_ | refine brT ?_ | refine brF ?_)
  exact And.intro (Or.inr rfl) rfl
 | true =>
 cases fd <;>
 ·refine spec_fn T_ok mixed_ok 0 Tryz.func120 fn_ok120 (by kernel_rfl) ?_
  first | refine Exists.intro _ (And.intro (s1) ?_) | refine Hn_by (Exists.intro _ (And.intro (s1) ?_))
  repeat (first | refine gT ?_ | refine gF ?_ | refine brT ?_ | refine brF ?_)
  first | refine Exists.intro _ (And.intro (s2) ?_) | refine Hn_by (Exists.intro _ (And.intro (s2) ?_))
  repeat (first | refine gT ?_ | refine gF ?_ | refine brT ?_ | refine brF ?_)
  first | refine Exists.intro _ (And.intro (s3) ?_) | refine Hn_by (Exists.intro _ (And.intro (s3) ?_))
  repeat (first | refine gT ?_ | refine gF ?_ | refine brT ?_ | refine brF ?_)
  first | refine Exists.intro _ (And.intro (s4) ?_) | refine Hn_by (Exists.intro _ (And.intro (s4) ?_))
  repeat (first | refine gT ?_ | refine gF ?_ | refine brT ?_ | refine brF ?_)
  exact And.intro (Or.inr rfl) rfl
theorem made16_spec (a b c d : Int) : Spec Tryz.prog [] 120 [.int .i64 a, .int .i64 b, .int .i64 c, .int .i64 d] (madeB a b c d).av := made16_walk a b c d _ _ _ _ (fits_spec a) (fits_spec b) (fits_spec c) (fits_spec d)
theorem made_checked {a b c d : Int} (h1 : a <= b) (h2 : c <= d) : madeB a b c d = checkedF ⟨a, b, c, d, false⟩ := by
 have e : Bx.ok ⟨a, b, c, d, false⟩ = all6 (fitB a) (fitB b) (fitB c) (fitB d) true true := by
  show validF a b c d false = _
  rw [<- validF_eq, decide_eq_true h1, decide_eq_true h2]
 unfold madeB checkedF
 rw [e]
 cases all6 (fitB a) (fitB b) (fitB c) (fitB d) true true <;> rfl
theorem op2_wide1 {f : Bx -> Bx -> Bx} {x y : Bx} (h : checkedF x = wideB) : applyF f x y = wideB := by unfold applyF; rw [h]; rfl
theorem op2_wide2 {f : Bx -> Bx -> Bx} {x y : Bx} (h : checkedF y = wideB) : applyF f x y = wideB := by
 unfold applyF
 rw [h]
 cases (checkedF x).w <;> rfl
theorem add16_spec (x y : Bx) : Spec Tryz.prog [] 72 [x.av, y.av] (applyF addF x y).av := by
 rcases checked_cases x with ex | ⟨_, hx⟩
 ·rw [op2_wide1 ex]
  have sx := wide_true ex
  obtain ⟨xa, xb, xc, xd, xw⟩ := x
  obtain ⟨ya, yb, yc, yd, yw⟩ := y
  refine spec_fn T_ok mixed_ok 0 Tryz.func72 fn_ok72 (by kernel_rfl) ?_
  first | refine Exists.intro _ (And.intro (sx) ?_) | refine Hn_by (Exists.intro _ (And.intro (sx) ?_))
  repeat (first | refine gT ?_ | refine gF ?_ | refine brT ?_ | refine brF ?_)
  exact And.intro (Or.inr rfl) rfl
 rcases checked_cases y with ey | ⟨_, hy⟩
 ·rw [op2_wide2 ey]
  have sx := wide_false hx
  have sy := wide_true ey
  obtain ⟨xa, xb, xc, xd, xw⟩ := x
  obtain ⟨ya, yb, yc, yd, yw⟩ := y
  refine spec_fn T_ok mixed_ok 0 Tryz.func72 fn_ok72 (by kernel_rfl) ?_
  first | refine Exists.intro _ (And.intro (sx) ?_) | refine Hn_by (Exists.intro _ (And.intro (sx) ?_))
  repeat (first | refine gT ?_ | refine gF ?_ | refine brT ?_ | refine brF ?_)
  first | refine Exists.intro _ (And.intro (sy) ?_) | refine Hn_by (Exists.intro _ (And.intro (sy) ?_))
  repeat (first | refine gT ?_ | refine gF ?_ | refine brT ?_ | refine brF ?_)
  exact And.intro (Or.inr rfl) rfl
 have sx := wide_false hx
 have sy := wide_false hy
 rw [apply_vb hx hy]
 have e : madeB (w64 (x.a + y.a)) (w64 (x.b + y.b)) (w64 (x.c + y.c)) (w64 (x.d + y.d)) = checkedF (addF x y) := by
  obtain ⟨_, x1, x2, x3, x4, x5, x6⟩ := hx
  obtain ⟨_, y1, y2, y3, y4, y5, y6⟩ := hy
  unfold MF at *
  refine made_checked ?_ ?_
  ·rw [w64_eq (by omega), w64_eq (by omega)]; omega
  ·rw [w64_eq (by omega), w64_eq (by omega)]; omega
 rw [<- e]
 have m := made16_spec (w64 (x.a + y.a)) (w64 (x.b + y.b)) (w64 (x.c + y.c)) (w64 (x.d + y.d))
 obtain ⟨xa, xb, xc, xd, xw⟩ := x
 obtain ⟨ya, yb, yc, yd, yw⟩ := y
 simp only at m ⊢
 generalize madeB (w64 (xa + ya)) (w64 (xb + yb)) (w64 (xc + yc)) (w64 (xd + yd)) = z at m ⊢
 obtain ⟨za, zb, zc, zd, zw⟩ := z
 refine spec_fn T_ok mixed_ok 0 Tryz.func72 fn_ok72 (by kernel_rfl) ?_
 first | refine Exists.intro _ (And.intro (sx) ?_) | refine Hn_by (Exists.intro _ (And.intro (sx) ?_))
 repeat (first | refine gT ?_ | refine gF ?_ | refine brT ?_ | refine brF ?_)
 first | refine Exists.intro _ (And.intro (sy) ?_) | refine Hn_by (Exists.intro _ (And.intro (sy) ?_))
 repeat (first | refine gT ?_ | refine gF ?_ | refine brT ?_ | refine brF ?_)
 first | refine Exists.intro _ (And.intro (m) ?_) | refine Hn_by (Exists.intro _ (And.intro (m) ?_))
 exact And.intro (Or.inr rfl) rfl
theorem hull16_spec (x y : Bx) : Spec Tryz.prog [] 75 [x.av, y.av] (applyF hullF x y).av := by
 rcases checked_cases x with ex | ⟨_, hx⟩
 ·rw [op2_wide1 ex]
  have sx := wide_true ex
  obtain ⟨xa, xb, xc, xd, xw⟩ := x
  obtain ⟨ya, yb, yc, yd, yw⟩ := y
  refine spec_fn T_ok mixed_ok 0 Tryz.func75 fn_ok75 (by kernel_rfl) ?_
  first | refine Exists.intro _ (And.intro (sx) ?_) | refine Hn_by (Exists.intro _ (And.intro (sx) ?_))
  repeat (first | refine gT ?_ | refine gF ?_ | refine brT ?_ | refine brF ?_)
  exact And.intro (Or.inr rfl) rfl
 rcases checked_cases y with ey | ⟨_, hy⟩
 ·rw [op2_wide2 ey]
  have sx := wide_false hx
  have sy := wide_true ey
  obtain ⟨xa, xb, xc, xd, xw⟩ := x
  obtain ⟨ya, yb, yc, yd, yw⟩ := y
  refine spec_fn T_ok mixed_ok 0 Tryz.func75 fn_ok75 (by kernel_rfl) ?_
  first | refine Exists.intro _ (And.intro (sx) ?_) | refine Hn_by (Exists.intro _ (And.intro (sx) ?_))
  repeat (first | refine gT ?_ | refine gF ?_ | refine brT ?_ | refine brF ?_)
  first | refine Exists.intro _ (And.intro (sy) ?_) | refine Hn_by (Exists.intro _ (And.intro (sy) ?_))
  repeat (first | refine gT ?_ | refine gF ?_ | refine brT ?_ | refine brF ?_)
  exact And.intro (Or.inr rfl) rfl
 have sx := wide_false hx
 have sy := wide_false hy
 rw [apply_vb hx hy]
 have e := (hull_vb hx hy).1
 rw [apply_vb hx hy] at e
 rw [e]
 obtain ⟨xa, xb, xc, xd, xw⟩ := x
 obtain ⟨ya, yb, yc, yd, yw⟩ := y
 refine spec_fn T_ok mixed_ok 0 Tryz.func75 fn_ok75 (by kernel_rfl) ?_
 first | refine Exists.intro _ (And.intro (sx) ?_) | refine Hn_by (Exists.intro _ (And.intro (sx) ?_))
 repeat (first | refine gT ?_ | refine gF ?_ | refine brT ?_ | refine brF ?_)
 first | refine Exists.intro _ (And.intro (sy) ?_) | refine Hn_by (Exists.intro _ (And.intro (sy) ?_))
 repeat (first | refine gT ?_ | refine gF ?_ | refine brT ?_ | refine brF ?_)
 exact And.intro (Or.inr rfl) rfl
theorem neg16_spec (x : Bx) : Spec Tryz.prog [] 70 [x.av] (applyF (fun a _ => negF a) x x).av := by
 rcases checked_cases x with ex | ⟨_, hx⟩
 ·rw [op2_wide1 ex]
  have sx := wide_true ex
  obtain ⟨xa, xb, xc, xd, xw⟩ := x
  refine spec_fn T_ok mixed_ok 0 Tryz.func70 fn_ok70 (by kernel_rfl) ?_
  first | refine Exists.intro _ (And.intro (sx) ?_) | refine Hn_by (Exists.intro _ (And.intro (sx) ?_))
  repeat (first | refine gT ?_ | refine gF ?_ | refine brT ?_ | refine brF ?_)
  exact And.intro (Or.inr rfl) rfl
 have sx := wide_false hx
 obtain ⟨e1, v1⟩ := neg_vb hx
 have e : madeB (w64 (0 - x.b)) (w64 (0 - x.a)) (w64 (0 - x.d)) (w64 (0 - x.c)) = applyF (fun a _ => negF a) x x := by
  rw [e1]
  obtain ⟨_, x1, x2, x3, x4, x5, x6⟩ := hx
  unfold MF at *
  rw [w64_eq (n := 0 - x.b) (by omega), w64_eq (n := 0 - x.a) (by omega), w64_eq (n := 0 - x.d) (by omega), w64_eq (n := 0 - x.c) (by omega), Int.zero_sub, Int.zero_sub, Int.zero_sub, Int.zero_sub, made_checked (by omega) (by omega)]
  exact v1.checked
 rw [<- e]
 have m := made16_spec (w64 (0 - x.b)) (w64 (0 - x.a)) (w64 (0 - x.d)) (w64 (0 - x.c))
 obtain ⟨xa, xb, xc, xd, xw⟩ := x
 simp only at m ⊢
 generalize madeB (w64 (0 - xb)) (w64 (0 - xa)) (w64 (0 - xd)) (w64 (0 - xc)) = z at m ⊢
 obtain ⟨za, zb, zc, zd, zw⟩ := z
 refine spec_fn T_ok mixed_ok 0 Tryz.func70 fn_ok70 (by kernel_rfl) ?_
 first | refine Exists.intro _ (And.intro (sx) ?_) | refine Hn_by (Exists.intro _ (And.intro (sx) ?_))
 repeat (first | refine gT ?_ | refine gF ?_ | refine brT ?_ | refine brF ?_)
 first | refine Exists.intro _ (And.intro (m) ?_) | refine Hn_by (Exists.intro _ (And.intro (m) ?_))
 exact And.intro (Or.inr rfl) rfl
theorem sub16_spec (x y : Bx) : Spec Tryz.prog [] 73 [x.av, y.av] (subF x y).av := by
 unfold subF
 have s1 := neg16_spec y
 generalize applyF (fun a _ => negF a) y y = n at s1 ⊢
 have s2 := add16_spec x n
 generalize applyF addF x n = z at s2 ⊢
 obtain ⟨xa, xb, xc, xd, xw⟩ := x
 obtain ⟨ya, yb, yc, yd, yw⟩ := y
 obtain ⟨na, nb, nc, nd, nw⟩ := n
 obtain ⟨za, zb, zc, zd, zw⟩ := z
 refine spec_fn T_ok mixed_ok 0 Tryz.func73 fn_ok73 (by kernel_rfl) ?_
 refine And.intro (by kernel_rfl) ?_
 repeat (first | refine gT ?_ | refine gF ?_ | refine brT ?_ | refine brF ?_ | refine And.intro rfl ?_)
 first | refine Exists.intro _ (And.intro (s1) ?_) | refine Hn_by (Exists.intro _ (And.intro (s1) ?_))
 repeat (first | refine gT ?_ | refine gF ?_ | refine brT ?_ | refine brF ?_ | refine And.intro rfl ?_)
 first | refine Exists.intro _ (And.intro (s2) ?_) | refine Hn_by (Exists.intro _ (And.intro (s2) ?_))
 repeat (first | refine gT ?_ | refine gF ?_ | refine brT ?_ | refine brF ?_ | refine And.intro rfl ?_)
 exact And.intro (Or.inr rfl) rfl
def and4 (a b c d : Bool) : Bool := match a with
 | false => false
 | true => match b with
  | false => false
  | true => match c with
   | false => false
   | true => d
theorem and4_iff {a b c d : Bool} : and4 a b c d = true ↔ a = true ∧ b = true ∧ c = true ∧ d = true := by
 cases a <;> cases b <;> cases c <;> simp [and4]
theorem meets_wide {x y : Bx} (h : checkedF x = wideB ∨ checkedF y = wideB) : meetsF x y = true := by
 unfold meetsF meetsC
 rcases h with h | h
 ·rw [h]; rfl
 ·rw [h]; cases (checkedF x).w <;> rfl
theorem meets16_spec (x y : Bx) : Spec Tryz.prog [] 76 [x.av, y.av] (.bool (meetsF x y)) := by
 rcases checked_cases x with ex | ⟨_, hx⟩
 ·rw [meets_wide (.inl ex)]
  have sx := wide_true ex
  obtain ⟨xa, xb, xc, xd, xw⟩ := x
  obtain ⟨ya, yb, yc, yd, yw⟩ := y
  refine spec_fn T_ok mixed_ok 0 Tryz.func76 fn_ok76 (by kernel_rfl) ?_
  first | refine Exists.intro _ (And.intro (sx) ?_) | refine Hn_by (Exists.intro _ (And.intro (sx) ?_))
  repeat (first | refine gT ?_ | refine gF ?_ | refine brT ?_ | refine brF ?_)
  exact And.intro (Or.inr rfl) rfl
 have sx := wide_false hx
 rcases checked_cases y with ey | ⟨_, hy⟩
 ·rw [meets_wide (.inr ey)]
  have sy := wide_true ey
  obtain ⟨xa, xb, xc, xd, xw⟩ := x
  obtain ⟨ya, yb, yc, yd, yw⟩ := y
  refine spec_fn T_ok mixed_ok 0 Tryz.func76 fn_ok76 (by kernel_rfl) ?_
  first | refine Exists.intro _ (And.intro (sx) ?_) | refine Hn_by (Exists.intro _ (And.intro (sx) ?_))
  repeat (first | refine gT ?_ | refine gF ?_ | refine brT ?_ | refine brF ?_)
  first | refine Exists.intro _ (And.intro (sy) ?_) | refine Hn_by (Exists.intro _ (And.intro (sy) ?_))
  repeat (first | refine gT ?_ | refine gF ?_ | refine brT ?_ | refine brF ?_)
  exact And.intro (Or.inr rfl) rfl
 have sy := wide_false hy
 have e : meetsF x y = and4 (decide (x.a <= y.b)) (decide (y.a <= x.b)) (decide (x.c <= y.d)) (decide (y.c <= x.d)) := by
  rw [Bool.eq_iff_iff, meets_vb hx hy, and4_iff]
  simp only [decide_eq_true_eq]
 rw [e]
 obtain ⟨xa, xb, xc, xd, xw⟩ := x
 obtain ⟨ya, yb, yc, yd, yw⟩ := y
 simp only
 refine spec_fn T_ok mixed_ok 0 Tryz.func76 fn_ok76 (by kernel_rfl) ?_
 first | refine Exists.intro _ (And.intro (sx) ?_) | refine Hn_by (Exists.intro _ (And.intro (sx) ?_))
 repeat (first | refine gT ?_ | refine gF ?_ | refine brT ?_ | refine brF ?_)
 first | refine Exists.intro _ (And.intro (sy) ?_) | refine Hn_by (Exists.intro _ (And.intro (sy) ?_))
 repeat (first | refine gT ?_ | refine gF ?_ | refine brT ?_ | refine brF ?_)
 refine br (fun h1 => ?_) (fun h1 => ?_)
 rotate_left
 ·repeat (first | refine gT ?_ | refine gF ?_ | refine brT ?_ | refine brF ?_)
  rw [decide_eq_false (show ¬ xa <= yb from h1)]
  exact And.intro (Or.inr rfl) rfl
 rw [decide_eq_true (show xa <= yb from h1)]
 repeat (first | refine gT ?_ | refine gF ?_ | refine brT ?_ | refine brF ?_)
 refine br (fun h2 => ?_) (fun h2 => ?_)
 rotate_left
 ·repeat (first | refine gT ?_ | refine gF ?_ | refine brT ?_ | refine brF ?_)
  rw [decide_eq_false (show ¬ ya <= xb from h2)]
  exact And.intro (Or.inr rfl) rfl
 rw [decide_eq_true (show ya <= xb from h2)]
 repeat (first | refine gT ?_ | refine gF ?_ | refine brT ?_ | refine brF ?_)
 refine br (fun h3 => ?_) (fun h3 => ?_)
 rotate_left
 ·repeat (first | refine gT ?_ | refine gF ?_ | refine brT ?_ | refine brF ?_)
  rw [decide_eq_false (show ¬ xc <= yd from h3)]
  exact And.intro (Or.inr rfl) rfl
 rw [decide_eq_true (show xc <= yd from h3)]
 repeat (first | refine gT ?_ | refine gF ?_ | refine brT ?_ | refine brF ?_)
 exact And.intro (Or.inr rfl) rfl
theorem zero16_spec (x : Bx) : Spec Tryz.prog [] 71 [x.av] (.bool (meetsF x ⟨0, 0, 0, 0, false⟩)) := by
 rcases checked_cases x with ex | ⟨_, hx⟩
 ·rw [meets_wide (.inl ex)]
  have sx := wide_true ex
  obtain ⟨xa, xb, xc, xd, xw⟩ := x
  refine spec_fn T_ok mixed_ok 0 Tryz.func71 fn_ok71 (by kernel_rfl) ?_
  first | refine Exists.intro _ (And.intro (sx) ?_) | refine Hn_by (Exists.intro _ (And.intro (sx) ?_))
  repeat (first | refine gT ?_ | refine gF ?_ | refine brT ?_ | refine brF ?_)
  exact And.intro (Or.inr rfl) rfl
 have sx := wide_false hx
 have hz : Vb ⟨0, 0, 0, 0, false⟩ := by unfold Vb MF; decide
 have e : meetsF x ⟨0, 0, 0, 0, false⟩ = and4 (decide (x.a <= 0)) (decide (x.b ≥ 0)) (decide (x.c <= 0)) (decide (x.d ≥ 0)) := by
  rw [Bool.eq_iff_iff, meets_vb hx hz, and4_iff]
  simp only [decide_eq_true_eq, ge_iff_le]
 rw [e]
 obtain ⟨xa, xb, xc, xd, xw⟩ := x
 simp only
 refine spec_fn T_ok mixed_ok 0 Tryz.func71 fn_ok71 (by kernel_rfl) ?_
 first | refine Exists.intro _ (And.intro (sx) ?_) | refine Hn_by (Exists.intro _ (And.intro (sx) ?_))
 repeat (first | refine gT ?_ | refine gF ?_ | refine brT ?_ | refine brF ?_)
 refine br (fun h1 => ?_) (fun h1 => ?_)
 rotate_left
 ·repeat (first | refine gT ?_ | refine gF ?_ | refine brT ?_ | refine brF ?_)
  rw [decide_eq_false (show ¬ xa <= 0 from h1)]
  exact And.intro (Or.inr rfl) rfl
 rw [decide_eq_true (show xa <= 0 from h1)]
 repeat (first | refine gT ?_ | refine gF ?_ | refine brT ?_ | refine brF ?_)
 refine br (fun h2 => ?_) (fun h2 => ?_)
 rotate_left
 ·repeat (first | refine gT ?_ | refine gF ?_ | refine brT ?_ | refine brF ?_)
  rw [decide_eq_false (show ¬ xb ≥ 0 from h2)]
  exact And.intro (Or.inr rfl) rfl
 rw [decide_eq_true (show xb ≥ 0 from h2)]
 repeat (first | refine gT ?_ | refine gF ?_ | refine brT ?_ | refine brF ?_)
 refine br (fun h3 => ?_) (fun h3 => ?_)
 rotate_left
 ·repeat (first | refine gT ?_ | refine gF ?_ | refine brT ?_ | refine brF ?_)
  rw [decide_eq_false (show ¬ xc <= 0 from h3)]
  exact And.intro (Or.inr rfl) rfl
 rw [decide_eq_true (show xc <= 0 from h3)]
 repeat (first | refine gT ?_ | refine gF ?_ | refine brT ?_ | refine brF ?_)
 exact And.intro (Or.inr rfl) rfl
theorem inside_nwide {x y : Bx} (h : checkedF x = wideB) (hy : Vb y) : insideF x y = false := by
 unfold insideF
 rw [hy.checked, hy.1, op2_wide1 h]
 obtain ⟨a, b, c, d, w⟩ := y
 have hw : w = false := hy.1
 subst hw
 unfold eqB5 wideB
 simp
theorem inside16_spec (x y : Bx) : Spec Tryz.prog [] 77 [x.av, y.av] (.bool (insideF x y)) := by
 rcases checked_cases y with ey | ⟨_, hy⟩
 ·have e : insideF x y = true := by unfold insideF; rw [ey]; rfl
  rw [e]
  have sy := wide_true ey
  obtain ⟨xa, xb, xc, xd, xw⟩ := x
  obtain ⟨ya, yb, yc, yd, yw⟩ := y
  refine spec_fn T_ok mixed_ok 0 Tryz.func77 fn_ok77 (by kernel_rfl) ?_
  first | refine Exists.intro _ (And.intro (sy) ?_) | refine Hn_by (Exists.intro _ (And.intro (sy) ?_))
  repeat (first | refine gT ?_ | refine gF ?_ | refine brT ?_ | refine brF ?_)
  exact And.intro (Or.inr rfl) rfl
 have sy := wide_false hy
 rcases checked_cases x with ex | ⟨_, hx⟩
 ·rw [inside_nwide ex hy]
  have sx := wide_true ex
  obtain ⟨xa, xb, xc, xd, xw⟩ := x
  obtain ⟨ya, yb, yc, yd, yw⟩ := y
  refine spec_fn T_ok mixed_ok 0 Tryz.func77 fn_ok77 (by kernel_rfl) ?_
  first | refine Exists.intro _ (And.intro (sy) ?_) | refine Hn_by (Exists.intro _ (And.intro (sy) ?_))
  repeat (first | refine gT ?_ | refine gF ?_ | refine brT ?_ | refine brF ?_)
  first | refine Exists.intro _ (And.intro (sx) ?_) | refine Hn_by (Exists.intro _ (And.intro (sx) ?_))
  repeat (first | refine gT ?_ | refine gF ?_ | refine brT ?_ | refine brF ?_)
  exact And.intro (Or.inr rfl) rfl
 have sx := wide_false hx
 have e : insideF x y = and4 (decide (y.a <= x.a)) (decide (x.b <= y.b)) (decide (y.c <= x.c)) (decide (x.d <= y.d)) := by
  rw [Bool.eq_iff_iff, inside_iff hx hy, and4_iff]
  simp only [decide_eq_true_eq]
 rw [e]
 obtain ⟨xa, xb, xc, xd, xw⟩ := x
 obtain ⟨ya, yb, yc, yd, yw⟩ := y
 simp only
 refine spec_fn T_ok mixed_ok 0 Tryz.func77 fn_ok77 (by kernel_rfl) ?_
 first | refine Exists.intro _ (And.intro (sy) ?_) | refine Hn_by (Exists.intro _ (And.intro (sy) ?_))
 repeat (first | refine gT ?_ | refine gF ?_ | refine brT ?_ | refine brF ?_)
 first | refine Exists.intro _ (And.intro (sx) ?_) | refine Hn_by (Exists.intro _ (And.intro (sx) ?_))
 repeat (first | refine gT ?_ | refine gF ?_ | refine brT ?_ | refine brF ?_)
 refine br (fun h1 => ?_) (fun h1 => ?_)
 rotate_left
 ·repeat (first | refine gT ?_ | refine gF ?_ | refine brT ?_ | refine brF ?_)
  rw [decide_eq_false (show ¬ ya <= xa from h1)]
  exact And.intro (Or.inr rfl) rfl
 rw [decide_eq_true (show ya <= xa from h1)]
 repeat (first | refine gT ?_ | refine gF ?_ | refine brT ?_ | refine brF ?_)
 refine br (fun h2 => ?_) (fun h2 => ?_)
 rotate_left
 ·repeat (first | refine gT ?_ | refine gF ?_ | refine brT ?_ | refine brF ?_)
  rw [decide_eq_false (show ¬ xb <= yb from h2)]
  exact And.intro (Or.inr rfl) rfl
 rw [decide_eq_true (show xb <= yb from h2)]
 repeat (first | refine gT ?_ | refine gF ?_ | refine brT ?_ | refine brF ?_)
 refine br (fun h3 => ?_) (fun h3 => ?_)
 rotate_left
 ·repeat (first | refine gT ?_ | refine gF ?_ | refine brT ?_ | refine brF ?_)
  rw [decide_eq_false (show ¬ yc <= xc from h3)]
  exact And.intro (Or.inr rfl) rfl
 rw [decide_eq_true (show yc <= xc from h3)]
 repeat (first | refine gT ?_ | refine gF ?_ | refine brT ?_ | refine brF ?_)
 exact And.intro (Or.inr rfl) rfl
end Ab
end
section
open Go Go.Proofs
namespace Ab
set_option maxRecDepth 100000
set_option maxHeartbeats 1000000
def floF (a b : Int) : Int := if -MF <= a * b / 16777216 ∧ a * b / 16777216 <= MF then a * b / 16777216 else if a * b / 16777216 < 0 then -MF - 1 else MF + 1
def beyondF (neg : Bool) : Int := match neg with | true => -MF - 1 | false => MF + 1
theorem floor_in (a b : Int) {an bn pn qn : Bool} {al bl pl ql : List Int} {n : Int} (o1 : Spec Tryz.prog [] 66 [.int .i64 a] (mkI an al)) (o2 : Spec Tryz.prog [] 66 [.int .i64 b] (mkI bn bl)) (m : Spec Tryz.prog [] 141 [mkI an al, mkI bn bl] (.tup [mkI pn pl, .int .i64 0]))
  (s : Spec Tryz.prog [] 65 [mkI pn pl, .int .i64 (-24)] (.tup [mkI qn ql, .int .i64 0])) (sm : Spec Tryz.prog [] 61 [mkI qn ql] (.tup [.int .i64 n, .bool true])) (ft : Spec Tryz.prog [] 62 [.int .i64 n] (.bool true)) :
  Spec Tryz.prog [] 149 [.int .i64 a, .int .i64 b] (.int .i64 n) := by
 refine spec_fn T_ok mixed_ok 0 Tryz.func149 fn_ok149 (by kernel_rfl) ?_
 first | refine Exists.intro _ (And.intro (o1) ?_) | refine Hn_by (Exists.intro _ (And.intro (o1) ?_))
 first | refine Exists.intro _ (And.intro (o2) ?_) | refine Hn_by (Exists.intro _ (And.intro (o2) ?_))
 first | refine Exists.intro _ (And.intro (m) ?_) | refine Hn_by (Exists.intro _ (And.intro (m) ?_))
 first | refine Exists.intro _ (And.intro (s) ?_) | refine Hn_by (Exists.intro _ (And.intro (s) ?_))
 first | refine Exists.intro _ (And.intro (sm) ?_) | refine Hn_by (Exists.intro _ (And.intro (sm) ?_))
 repeat (first | refine gT ?_ | refine gF ?_ | refine brT ?_ | refine brF ?_)
 first | refine Exists.intro _ (And.intro (ft) ?_) | refine Hn_by (Exists.intro _ (And.intro (ft) ?_))
 repeat (first | refine gT ?_ | refine gF ?_ | refine brT ?_ | refine brF ?_)
 exact And.intro (Or.inr rfl) rfl
theorem floor_out (a b : Int) {an bn pn qn : Bool} {al bl pl ql : List Int} {n : Int} {is : Bool} (o1 : Spec Tryz.prog [] 66 [.int .i64 a] (mkI an al)) (o2 : Spec Tryz.prog [] 66 [.int .i64 b] (mkI bn bl)) (m : Spec Tryz.prog [] 141 [mkI an al, mkI bn bl] (.tup [mkI pn pl, .int .i64 0]))
  (s : Spec Tryz.prog [] 65 [mkI pn pl, .int .i64 (-24)] (.tup [mkI qn ql, .int .i64 0])) (sm : Spec Tryz.prog [] 61 [mkI qn ql] (.tup [.int .i64 n, .bool is])) (ft : is = true -> Spec Tryz.prog [] 62 [.int .i64 n] (.bool false)) :
  Spec Tryz.prog [] 149 [.int .i64 a, .int .i64 b] (.int .i64 (beyondF qn)) := by
 cases is with
 | true =>
  have ft := ft rfl
  cases qn <;>
  ·refine spec_fn T_ok mixed_ok 0 Tryz.func149 fn_ok149 (by kernel_rfl) ?_
   first | refine Exists.intro _ (And.intro (o1) ?_) | refine Hn_by (Exists.intro _ (And.intro (o1) ?_))
   first | refine Exists.intro _ (And.intro (o2) ?_) | refine Hn_by (Exists.intro _ (And.intro (o2) ?_))
   first | refine Exists.intro _ (And.intro (m) ?_) | refine Hn_by (Exists.intro _ (And.intro (m) ?_))
   first | refine Exists.intro _ (And.intro (s) ?_) | refine Hn_by (Exists.intro _ (And.intro (s) ?_))
   first | refine Exists.intro _ (And.intro (sm) ?_) | refine Hn_by (Exists.intro _ (And.intro (sm) ?_))
   repeat (first | refine gT ?_ | refine gF ?_ | refine brT ?_ | refine brF ?_)
   first | refine Exists.intro _ (And.intro (ft) ?_) | refine Hn_by (Exists.intro _ (And.intro (ft) ?_))
   repeat (first | refine gT ?_ | refine gF ?_ | refine brT ?_ | refine brF ?_)
   exact And.intro (Or.inr rfl) rfl
 | false =>
  cases qn <;>
  ·refine spec_fn T_ok mixed_ok 0 Tryz.func149 fn_ok149 (by kernel_rfl) ?_
   first | refine Exists.intro _ (And.intro (o1) ?_) | refine Hn_by (Exists.intro _ (And.intro (o1) ?_))
   first | refine Exists.intro _ (And.intro (o2) ?_) | refine Hn_by (Exists.intro _ (And.intro (o2) ?_))
   first | refine Exists.intro _ (And.intro (m) ?_) | refine Hn_by (Exists.intro _ (And.intro (m) ?_))
   first | refine Exists.intro _ (And.intro (s) ?_) | refine Hn_by (Exists.intro _ (And.intro (s) ?_))
   first | refine Exists.intro _ (And.intro (sm) ?_) | refine Hn_by (Exists.intro _ (And.intro (sm) ?_))
   repeat (first | refine gT ?_ | refine gF ?_ | refine brT ?_ | refine brF ?_)
   exact And.intro (Or.inr rfl) rfl
theorem mul_bd60 {x y : Int} (h1 : Sm x) (h2 : Sm y) : -1329227995784915872903807060280344576 <= x * y ∧ x * y <= 1329227995784915872903807060280344576 := by
 unfold Sm MF at *
 have a := Int.mul_nonneg (show 0 <= 1152921504606846976 - x by omega) (show 0 <= 1152921504606846976 + y by omega)
 have b := Int.mul_nonneg (show 0 <= 1152921504606846976 + x by omega) (show 0 <= 1152921504606846976 - y by omega)
 have c := Int.mul_nonneg (show 0 <= 1152921504606846976 - x by omega) (show 0 <= 1152921504606846976 - y by omega)
 have d := Int.mul_nonneg (show 0 <= 1152921504606846976 + x by omega) (show 0 <= 1152921504606846976 + y by omega)
 rw [Int.sub_mul, Int.mul_add, Int.mul_add] at a
 rw [Int.add_mul, Int.mul_sub, Int.mul_sub] at b
 rw [Int.sub_mul, Int.mul_sub, Int.mul_sub] at c
 rw [Int.add_mul, Int.mul_add, Int.mul_add] at d
 omega
theorem fits_200 {z : Int} (h : -1606938044258990275541962092341162602522202993782792835301375 <= z ∧ z <= 1606938044258990275541962092341162602522202993782792835301375) : Fits z := fits_lt (by
 have := two_pow_B (n := 200) (k := 128) (by decide)
 have e : (2 : Int) ^ 200 = 1606938044258990275541962092341162602522202993782792835301376 := by decide
 rw [e] at this
 unfold az; omega)
theorem floor_spec {a b : Int} (ha : Sm a) (hb : Sm b) : Spec Tryz.prog [] 149 [.int .i64 a, .int .i64 b] (.int .i64 (floF a b)) := by
 have bd := mul_bd60 ha hb
 unfold Sm MF at ha hb
 have fa : Fits a := fits_i64 (by omega) (by omega)
 have fb : Fits b := fits_i64 (by omega) (by omega)
 have o1 := rOf_spec [] a (by omega) (by omega)
 have o2 := rOf_spec [] b (by omega) (by omega)
 have fp : Fits (a * b) := fits_200 (by omega)
 have m := rmul_int [] fa fb fp
 have s := rshr_int [] fp (k := 24) (by decide) (by decide)
 rw [show (2 : Int) ^ 24 = 16777216 by decide, show -((24 : Nat) : Int) = -24 from rfl] at s
 have fq : Fits (a * b / 16777216) := fits_200 (by omega)
 obtain ⟨s1, s2⟩ := rsmall_int [] fq
 have ft := fits_spec (a * b / 16777216)
 unfold floF
 by_cases h1 : -MF <= a * b / 16777216 ∧ a * b / 16777216 <= MF
 ·rw [if_pos h1]
  have sm := s1 (by unfold MF at h1; omega)
  rw [show fitB (a * b / 16777216) = true from decide_eq_true h1] at ft
  exact floor_in a b o1 o2 m s sm ft
 ·rw [if_neg h1]
  have e : (if a * b / 16777216 < 0 then -MF - 1 else MF + 1) = beyondF (decide (a * b / 16777216 < 0)) := by
   by_cases g : a * b / 16777216 < 0
   ·rw [if_pos g, decide_eq_true g]; rfl
   ·rw [if_neg g, decide_eq_false g]; rfl
  rw [e]
  by_cases h2 : -9223372036854775808 <= a * b / 16777216 ∧ a * b / 16777216 < 9223372036854775808
  ·rw [show fitB (a * b / 16777216) = false from decide_eq_false h1] at ft
   exact floor_out a b o1 o2 m s (s1 h2) (fun _ => ft)
  ·exact floor_out a b o1 o2 m s (s2 h2) (fun e => by cases e)
theorem floor_fit {a b : Int} (h : Fit (a * b)) : floF a b = Fl24 (a * b) ∧ floF (-a) b = -Ce24 (a * b) := by
 unfold Fit MF at h
 unfold floF Fl24 Ce24
 rw [Int.neg_mul]
 unfold MF
 generalize a * b = p at *
 constructor
 ·rw [if_pos (by omega)]
 ·rw [if_pos (by omega)]; omega
theorem floor_nofit {a b : Int} (h : ¬ Fit (a * b)) : floF a b < -MF ∨ floF (-a) b < -MF := by
 unfold Fit MF at h
 unfold floF
 rw [Int.neg_mul]
 unfold MF
 generalize a * b = p at *
 by_cases g : p < 0
 ·left
  rw [if_neg (by omega), if_pos (by omega)]; omega
 ·right
  rw [if_neg (by omega), if_pos (by omega)]; omega
def m4 (a b c d : Int) : Int := mm2 false (mm2 false (mm2 false a b) c) d
theorem m4_ok (a b c d : Int) : m4 a b c d <= a ∧ m4 a b c d <= b ∧ m4 a b c d <= c ∧ m4 a b c d <= d ∧ (m4 a b c d = a ∨ m4 a b c d = b ∨ m4 a b c d = c ∨ m4 a b c d = d) := by
 unfold m4 mm2
 simp only
 refine ⟨?_, ?_, ?_, ?_, ?_⟩ <;> (repeat' split) <;> omega
def prodF (a b : Sp) : Sp := ⟨m4 (floF a.lo b.lo) (floF a.lo b.hi) (floF a.hi b.lo) (floF a.hi b.hi), -m4 (floF (-a.lo) b.lo) (floF (-a.lo) b.hi) (floF (-a.hi) b.lo) (floF (-a.hi) b.hi)⟩
theorem prod_ok {a b : Sp} (h : Corners a b) : prodF a b = timesF a b := by
 obtain ⟨h1, h2, h3, h4⟩ := h
 obtain ⟨e1, e2⟩ := (scaled_cases a.lo b.lo).1 h1
 obtain ⟨e3, e4⟩ := (scaled_cases a.lo b.hi).1 h2
 obtain ⟨e5, e6⟩ := (scaled_cases a.hi b.lo).1 h3
 obtain ⟨e7, e8⟩ := (scaled_cases a.hi b.hi).1 h4
 obtain ⟨f1, f2⟩ := floor_fit h1
 obtain ⟨f3, f4⟩ := floor_fit h2
 obtain ⟨f5, f6⟩ := floor_fit h3
 obtain ⟨f7, f8⟩ := floor_fit h4
 unfold prodF timesF
 rw [e1, e2, e3, e4, e5, e6, e7, e8, f1, f2, f3, f4, f5, f6, f7, f8]
 obtain ⟨m1, m2, m3, m4', m5⟩ := minL3 (Fl24 (a.lo * b.lo)) (Fl24 (a.lo * b.hi)) (Fl24 (a.hi * b.lo)) (Fl24 (a.hi * b.hi))
 obtain ⟨n1, n2, n3, n4, n5⟩ := maxL3 (Ce24 (a.lo * b.lo)) (Ce24 (a.lo * b.hi)) (Ce24 (a.hi * b.lo)) (Ce24 (a.hi * b.hi))
 obtain ⟨p1, p2, p3, p4, p5⟩ := m4_ok (Fl24 (a.lo * b.lo)) (Fl24 (a.lo * b.hi)) (Fl24 (a.hi * b.lo)) (Fl24 (a.hi * b.hi))
 obtain ⟨q1, q2, q3, q4, q5⟩ := m4_ok (-Ce24 (a.lo * b.lo)) (-Ce24 (a.lo * b.hi)) (-Ce24 (a.hi * b.lo)) (-Ce24 (a.hi * b.hi))
 rw [Sp.mk.injEq]
 constructor <;> omega
theorem prod_bad {a b : Sp} (h : ¬ Corners a b) : fitB (prodF a b).lo = false ∨ fitB (prodF a b).hi = false := by
 obtain ⟨p1, p2, p3, p4, p5⟩ := m4_ok (floF a.lo b.lo) (floF a.lo b.hi) (floF a.hi b.lo) (floF a.hi b.hi)
 obtain ⟨q1, q2, q3, q4, q5⟩ := m4_ok (floF (-a.lo) b.lo) (floF (-a.lo) b.hi) (floF (-a.hi) b.lo) (floF (-a.hi) b.hi)
 have key : (prodF a b).lo < -MF ∨ (prodF a b).hi > MF := by
  unfold prodF
  simp only
  by_cases h1 : Fit (a.lo * b.lo)
  ·by_cases h2 : Fit (a.lo * b.hi)
   ·by_cases h3 : Fit (a.hi * b.lo)
    ·by_cases h4 : Fit (a.hi * b.hi)
     ·exact absurd ⟨h1, h2, h3, h4⟩ h
     ·have := floor_nofit h4
      omega
    ·have := floor_nofit h3
     omega
   ·have := floor_nofit h2
    omega
  ·have := floor_nofit h1
   omega
 rcases key with k | k
 ·left; exact decide_eq_false (fun e => by omega)
 ·right; exact decide_eq_false (fun e => by omega)
theorem product16_walk {a1 a2 b1 b2 f1 f2 f3 f4 g1 g2 g3 g4 : Int} (s1 : Spec Tryz.prog [] 149 [.int .i64 a1, .int .i64 b1] (.int .i64 f1)) (s2 : Spec Tryz.prog [] 149 [.int .i64 a1, .int .i64 b2] (.int .i64 f2)) (s3 : Spec Tryz.prog [] 149 [.int .i64 a2, .int .i64 b1] (.int .i64 f3)) (s4 : Spec Tryz.prog [] 149 [.int .i64 a2, .int .i64 b2] (.int .i64 f4))
  (t1 : Spec Tryz.prog [] 149 [.int .i64 (w64 (0 - a1)), .int .i64 b1] (.int .i64 g1)) (t2 : Spec Tryz.prog [] 149 [.int .i64 (w64 (0 - a1)), .int .i64 b2] (.int .i64 g2)) (t3 : Spec Tryz.prog [] 149 [.int .i64 (w64 (0 - a2)), .int .i64 b1] (.int .i64 g3)) (t4 : Spec Tryz.prog [] 149 [.int .i64 (w64 (0 - a2)), .int .i64 b2] (.int .i64 g4)) :
  Spec Tryz.prog [] 121 [.agg [.int .i64 a1, .int .i64 a2], .agg [.int .i64 b1, .int .i64 b2]] (.agg [.int .i64 (m4 f1 f2 f3 f4), .int .i64 (w64 (0 - m4 g1 g2 g3 g4))]) := by
 refine spec_fn T_ok mixed_ok 0 Tryz.func121 fn_ok121 (by kernel_rfl) ?_
 refine And.intro (by kernel_rfl) ?_
 repeat (first | refine gT ?_ | refine gF ?_ | refine brT ?_ | refine brF ?_ | refine And.intro rfl ?_)
 first | refine Exists.intro _ (And.intro (s1) ?_) | refine Hn_by (Exists.intro _ (And.intro (s1) ?_))
 repeat (first | refine gT ?_ | refine gF ?_ | refine brT ?_ | refine brF ?_ | refine And.intro rfl ?_)
 first | refine Exists.intro _ (And.intro (s2) ?_) | refine Hn_by (Exists.intro _ (And.intro (s2) ?_))
 repeat (first | refine gT ?_ | refine gF ?_ | refine brT ?_ | refine brF ?_ | refine And.intro rfl ?_)
 first | refine Exists.intro _ (And.intro (s3) ?_) | refine Hn_by (Exists.intro _ (And.intro (s3) ?_))
 repeat (first | refine gT ?_ | refine gF ?_ | refine brT ?_ | refine brF ?_ | refine And.intro rfl ?_)
 first | refine Exists.intro _ (And.intro (s4) ?_) | refine Hn_by (Exists.intro _ (And.intro (s4) ?_))
 repeat (first | refine gT ?_ | refine gF ?_ | refine brT ?_ | refine brF ?_ | refine And.intro rfl ?_)
 first | refine Exists.intro _ (And.intro (t1) ?_) | refine Hn_by (Exists.intro _ (And.intro (t1) ?_))
 repeat (first | refine gT ?_ | refine gF ?_ | refine brT ?_ | refine brF ?_ | refine And.intro rfl ?_)
 first | refine Exists.intro _ (And.intro (t2) ?_) | refine Hn_by (Exists.intro _ (And.intro (t2) ?_))
 repeat (first | refine gT ?_ | refine gF ?_ | refine brT ?_ | refine brF ?_ | refine And.intro rfl ?_)
 first | refine Exists.intro _ (And.intro (t3) ?_) | refine Hn_by (Exists.intro _ (And.intro (t3) ?_))
 repeat (first | refine gT ?_ | refine gF ?_ | refine brT ?_ | refine brF ?_ | refine And.intro rfl ?_)
 first | refine Exists.intro _ (And.intro (t4) ?_) | refine Hn_by (Exists.intro _ (And.intro (t4) ?_))
 repeat (first | refine gT ?_ | refine gF ?_ | refine brT ?_ | refine brF ?_ | refine And.intro rfl ?_)
 exact And.intro (Or.inr rfl) rfl
theorem floF_bd {a b : Int} : -MF - 1 <= floF a b ∧ floF a b <= MF + 1 := by
 unfold floF MF
 split
 ·omega
 ·split <;> omega
theorem product16_spec {a b : Sp} (h1 : Sm a.lo) (h2 : Sm a.hi) (h3 : Sm b.lo) (h4 : Sm b.hi) : Spec Tryz.prog [] 121 [a.av, b.av] (prodF a b).av := by
 have n1 : Sm (-a.lo) := by unfold Sm at *; omega
 have n2 : Sm (-a.hi) := by unfold Sm at *; omega
 have t1 := floor_spec n1 h3
 have t2 := floor_spec n1 h4
 have t3 := floor_spec n2 h3
 have t4 := floor_spec n2 h4
 rw [show AV.int .i64 (-a.lo) = AV.int .i64 (w64 (0 - a.lo)) by rw [neg_sm h1]] at t1 t2
 rw [show AV.int .i64 (-a.hi) = AV.int .i64 (w64 (0 - a.hi)) by rw [neg_sm h2]] at t3 t4
 have w := product16_walk (floor_spec h1 h3) (floor_spec h1 h4) (floor_spec h2 h3) (floor_spec h2 h4) t1 t2 t3 t4
 obtain ⟨q1, q2, q3, q4, q5⟩ := m4_ok (floF (-a.lo) b.lo) (floF (-a.lo) b.hi) (floF (-a.hi) b.lo) (floF (-a.hi) b.hi)
 have e : w64 (0 - m4 (floF (-a.lo) b.lo) (floF (-a.lo) b.hi) (floF (-a.hi) b.lo) (floF (-a.hi) b.hi)) = -m4 (floF (-a.lo) b.lo) (floF (-a.lo) b.hi) (floF (-a.hi) b.lo) (floF (-a.hi) b.hi) := by
  have c1 := floF_bd (a := -a.lo) (b := b.lo)
  have c2 := floF_bd (a := -a.lo) (b := b.hi)
  have c3 := floF_bd (a := -a.hi) (b := b.lo)
  have c4 := floF_bd (a := -a.hi) (b := b.hi)
  unfold MF at c1 c2 c3 c4
  rw [w64_eq (by omega)]; omega
 rw [e] at w
 exact w
end Ab
end
section
open Go Go.Proofs
namespace Ab
set_option maxRecDepth 100000
set_option maxHeartbeats 1000000
theorem mul16_ok {xa xb xc xd ya yb yc yd p1 p2 q1 q2 r1 r2 s1 s2 za zb zc zd : Int} {xw yw zw : Bool} (sx : Spec Tryz.prog [] 119 [bx xa xb xc xd xw] (.bool false)) (sy : Spec Tryz.prog [] 119 [bx ya yb yc yd yw] (.bool false))
  (k1 : Spec Tryz.prog [] 121 [.agg [.int .i64 xa, .int .i64 xb], .agg [.int .i64 ya, .int .i64 yb]] (.agg [.int .i64 p1, .int .i64 p2])) (k2 : Spec Tryz.prog [] 121 [.agg [.int .i64 xc, .int .i64 xd], .agg [.int .i64 yc, .int .i64 yd]] (.agg [.int .i64 q1, .int .i64 q2]))
  (k3 : Spec Tryz.prog [] 121 [.agg [.int .i64 xa, .int .i64 xb], .agg [.int .i64 yc, .int .i64 yd]] (.agg [.int .i64 r1, .int .i64 r2])) (k4 : Spec Tryz.prog [] 121 [.agg [.int .i64 xc, .int .i64 xd], .agg [.int .i64 ya, .int .i64 yb]] (.agg [.int .i64 s1, .int .i64 s2]))
  (f1 : Spec Tryz.prog [] 62 [.int .i64 p1] (.bool true)) (f2 : Spec Tryz.prog [] 62 [.int .i64 p2] (.bool true)) (f3 : Spec Tryz.prog [] 62 [.int .i64 q1] (.bool true)) (f4 : Spec Tryz.prog [] 62 [.int .i64 q2] (.bool true))
  (f5 : Spec Tryz.prog [] 62 [.int .i64 r1] (.bool true)) (f6 : Spec Tryz.prog [] 62 [.int .i64 r2] (.bool true)) (f7 : Spec Tryz.prog [] 62 [.int .i64 s1] (.bool true)) (f8 : Spec Tryz.prog [] 62 [.int .i64 s2] (.bool true))
  (m : Spec Tryz.prog [] 120 [.int .i64 (w64 (p1 - q2)), .int .i64 (w64 (p2 - q1)), .int .i64 (w64 (r1 + s1)), .int .i64 (w64 (r2 + s2))] (bx za zb zc zd zw)) :
  Spec Tryz.prog [] 74 [bx xa xb xc xd xw, bx ya yb yc yd yw] (bx za zb zc zd zw) := by
 refine spec_fn T_ok mixed_ok 0 Tryz.func74 fn_ok74 (by kernel_rfl) ?_
 first | refine Exists.intro _ (And.intro (sx) ?_) | refine Hn_by (Exists.intro _ (And.intro (sx) ?_))
 repeat (first | refine gT ?_ | refine gF ?_ | refine brT ?_ | refine brF ?_)
 first | refine Exists.intro _ (And.intro (sy) ?_) | refine Hn_by (Exists.intro _ (And.intro (sy) ?_))
 repeat (first | refine gT ?_ | refine gF ?_ | refine brT ?_ | refine brF ?_)
 first | refine Exists.intro _ (And.intro (k1) ?_) | refine Hn_by (Exists.intro _ (And.intro (k1) ?_))
 first | refine Exists.intro _ (And.intro (k2) ?_) | refine Hn_by (Exists.intro _ (And.intro (k2) ?_))
 first | refine Exists.intro _ (And.intro (k3) ?_) | refine Hn_by (Exists.intro _ (And.intro (k3) ?_))
 first | refine Exists.intro _ (And.intro (k4) ?_) | refine Hn_by (Exists.intro _ (And.intro (k4) ?_))
 refine aw_loop (fun i : Nat => stOf [(4, .bp 2 0), (9, .bp 7 0), (10, .bp 8 0), (11, .bp 9 0), (12, .bp 10 0), (13, .ms 11 0 4), (14, .int .i64 (i : Int))] [(2, .box [.int .i64 0, .int .i64 0, .int .i64 0, .int .i64 0, .bool false]), (7, .box [.int .i64 p1, .int .i64 p2]), (8, .box [.int .i64 q1, .int .i64 q2]), (9, .box [.int .i64 r1, .int .i64 r2]), (10, .box [.int .i64 s1, .int .i64 s2]), (11, .arr (115, 2) [[.int .i64 p1, .int .i64 p2], [.int .i64 q1, .int .i64 q2], [.int .i64 r1, .int .i64 r2], [.int .i64 s1, .int .i64 s2]] true)] 12) (fun i => i <= 4) (fun i => 4 - i) 0 (Nat.zero_le _)
  (le_by ⟨rfl, rfl, rfl, rfl, rfl, rfl, rfl, trivial⟩ ⟨rfl, rfl, rfl, rfl, rfl, rfl, trivial⟩ (Nat.le_refl _)) ?_
 intro i hi P hP
 obtain rfl | rfl | rfl | rfl | rfl : i = 0 ∨ i = 1 ∨ i = 2 ∨ i = 3 ∨ i = 4 := by omega
 ·skip
  repeat (first | refine gT ?_ | refine gF ?_ | refine brT ?_ | refine brF ?_)
  refine And.intro (by decide) (And.intro (by decide) ?_)
  repeat (first | refine gT ?_ | refine gF ?_ | refine brT ?_ | refine brF ?_)
  refine Exists.intro ([.int .i64 p1, .int .i64 p2] : List AV) ?_
  refine And.intro rfl ?_
  repeat (first | refine gT ?_ | refine gF ?_ | refine brT ?_ | refine brF ?_)
  first | refine Exists.intro _ (And.intro (f1) ?_) | refine Hn_by (Exists.intro _ (And.intro (f1) ?_))
  repeat (first | refine gT ?_ | refine gF ?_ | refine brT ?_ | refine brF ?_)
  refine And.intro (by decide) (And.intro (by decide) ?_)
  repeat (first | refine gT ?_ | refine gF ?_ | refine brT ?_ | refine brF ?_)
  refine Exists.intro ([.int .i64 p1, .int .i64 p2] : List AV) ?_
  refine And.intro rfl ?_
  repeat (first | refine gT ?_ | refine gF ?_ | refine brT ?_ | refine brF ?_)
  first | refine Exists.intro _ (And.intro (f2) ?_) | refine Hn_by (Exists.intro _ (And.intro (f2) ?_))
  repeat (first | refine gT ?_ | refine gF ?_ | refine brT ?_ | refine brF ?_)
  exact hP 1 _ (le_by ⟨rfl, rfl, rfl, rfl, rfl, rfl, rfl, trivial⟩ ⟨rfl, rfl, rfl, rfl, rfl, rfl, trivial⟩ (Nat.le_refl _)) (by decide) (by decide)
 ·skip
  repeat (first | refine gT ?_ | refine gF ?_ | refine brT ?_ | refine brF ?_)
  refine And.intro (by decide) (And.intro (by decide) ?_)
  repeat (first | refine gT ?_ | refine gF ?_ | refine brT ?_ | refine brF ?_)
  refine Exists.intro ([.int .i64 q1, .int .i64 q2] : List AV) ?_
  refine And.intro rfl ?_
  repeat (first | refine gT ?_ | refine gF ?_ | refine brT ?_ | refine brF ?_)
  first | refine Exists.intro _ (And.intro (f3) ?_) | refine Hn_by (Exists.intro _ (And.intro (f3) ?_))
  repeat (first | refine gT ?_ | refine gF ?_ | refine brT ?_ | refine brF ?_)
  refine And.intro (by decide) (And.intro (by decide) ?_)
  repeat (first | refine gT ?_ | refine gF ?_ | refine brT ?_ | refine brF ?_)
  refine Exists.intro ([.int .i64 q1, .int .i64 q2] : List AV) ?_
  refine And.intro rfl ?_
  repeat (first | refine gT ?_ | refine gF ?_ | refine brT ?_ | refine brF ?_)
  first | refine Exists.intro _ (And.intro (f4) ?_) | refine Hn_by (Exists.intro _ (And.intro (f4) ?_))
  repeat (first | refine gT ?_ | refine gF ?_ | refine brT ?_ | refine brF ?_)
  exact hP 2 _ (le_by ⟨rfl, rfl, rfl, rfl, rfl, rfl, rfl, trivial⟩ ⟨rfl, rfl, rfl, rfl, rfl, rfl, trivial⟩ (Nat.le_refl _)) (by decide) (by decide)
 ·skip
  repeat (first | refine gT ?_ | refine gF ?_ | refine brT ?_ | refine brF ?_)
  refine And.intro (by decide) (And.intro (by decide) ?_)
  repeat (first | refine gT ?_ | refine gF ?_ | refine brT ?_ | refine brF ?_)
  refine Exists.intro ([.int .i64 r1, .int .i64 r2] : List AV) ?_
  refine And.intro rfl ?_
  repeat (first | refine gT ?_ | refine gF ?_ | refine brT ?_ | refine brF ?_)
  first | refine Exists.intro _ (And.intro (f5) ?_) | refine Hn_by (Exists.intro _ (And.intro (f5) ?_))
  repeat (first | refine gT ?_ | refine gF ?_ | refine brT ?_ | refine brF ?_)
  refine And.intro (by decide) (And.intro (by decide) ?_)
  repeat (first | refine gT ?_ | refine gF ?_ | refine brT ?_ | refine brF ?_)
  refine Exists.intro ([.int .i64 r1, .int .i64 r2] : List AV) ?_
  refine And.intro rfl ?_
  repeat (first | refine gT ?_ | refine gF ?_ | refine brT ?_ | refine brF ?_)
  first | refine Exists.intro _ (And.intro (f6) ?_) | refine Hn_by (Exists.intro _ (And.intro (f6) ?_))
  repeat (first | refine gT ?_ | refine gF ?_ | refine brT ?_ | refine brF ?_)
  exact hP 3 _ (le_by ⟨rfl, rfl, rfl, rfl, rfl, rfl, rfl, trivial⟩ ⟨rfl, rfl, rfl, rfl, rfl, rfl, trivial⟩ (Nat.le_refl _)) (by decide) (by decide)
 ·skip
  repeat (first | refine gT ?_ | refine gF ?_ | refine brT ?_ | refine brF ?_)
  refine And.intro (by decide) (And.intro (by decide) ?_)
  repeat (first | refine gT ?_ | refine gF ?_ | refine brT ?_ | refine brF ?_)
  refine Exists.intro ([.int .i64 s1, .int .i64 s2] : List AV) ?_
  refine And.intro rfl ?_
  repeat (first | refine gT ?_ | refine gF ?_ | refine brT ?_ | refine brF ?_)
  first | refine Exists.intro _ (And.intro (f7) ?_) | refine Hn_by (Exists.intro _ (And.intro (f7) ?_))
  repeat (first | refine gT ?_ | refine gF ?_ | refine brT ?_ | refine brF ?_)
  refine And.intro (by decide) (And.intro (by decide) ?_)
  repeat (first | refine gT ?_ | refine gF ?_ | refine brT ?_ | refine brF ?_)
  refine Exists.intro ([.int .i64 s1, .int .i64 s2] : List AV) ?_
  refine And.intro rfl ?_
  repeat (first | refine gT ?_ | refine gF ?_ | refine brT ?_ | refine brF ?_)
  first | refine Exists.intro _ (And.intro (f8) ?_) | refine Hn_by (Exists.intro _ (And.intro (f8) ?_))
  repeat (first | refine gT ?_ | refine gF ?_ | refine brT ?_ | refine brF ?_)
  exact hP 4 _ (le_by ⟨rfl, rfl, rfl, rfl, rfl, rfl, rfl, trivial⟩ ⟨rfl, rfl, rfl, rfl, rfl, rfl, trivial⟩ (Nat.le_refl _)) (by decide) (by decide)
 ·clear hP
  repeat (first | refine gT ?_ | refine gF ?_ | refine brT ?_ | refine brF ?_)
  first | refine Exists.intro _ (And.intro (m) ?_) | refine Hn_by (Exists.intro _ (And.intro (m) ?_))
  exact And.intro (Or.inr rfl) rfl
theorem mul16_bad {xa xb xc xd ya yb yc yd p1 p2 q1 q2 r1 r2 s1 s2 : Int} {xw yw : Bool} {b1 b2 b3 b4 b5 b6 b7 b8 : Bool} (sx : Spec Tryz.prog [] 119 [bx xa xb xc xd xw] (.bool false)) (sy : Spec Tryz.prog [] 119 [bx ya yb yc yd yw] (.bool false))
  (k1 : Spec Tryz.prog [] 121 [.agg [.int .i64 xa, .int .i64 xb], .agg [.int .i64 ya, .int .i64 yb]] (.agg [.int .i64 p1, .int .i64 p2])) (k2 : Spec Tryz.prog [] 121 [.agg [.int .i64 xc, .int .i64 xd], .agg [.int .i64 yc, .int .i64 yd]] (.agg [.int .i64 q1, .int .i64 q2]))
  (k3 : Spec Tryz.prog [] 121 [.agg [.int .i64 xa, .int .i64 xb], .agg [.int .i64 yc, .int .i64 yd]] (.agg [.int .i64 r1, .int .i64 r2])) (k4 : Spec Tryz.prog [] 121 [.agg [.int .i64 xc, .int .i64 xd], .agg [.int .i64 ya, .int .i64 yb]] (.agg [.int .i64 s1, .int .i64 s2]))
  (f1 : Spec Tryz.prog [] 62 [.int .i64 p1] (.bool b1)) (f2 : Spec Tryz.prog [] 62 [.int .i64 p2] (.bool b2)) (f3 : Spec Tryz.prog [] 62 [.int .i64 q1] (.bool b3)) (f4 : Spec Tryz.prog [] 62 [.int .i64 q2] (.bool b4))
  (f5 : Spec Tryz.prog [] 62 [.int .i64 r1] (.bool b5)) (f6 : Spec Tryz.prog [] 62 [.int .i64 r2] (.bool b6)) (f7 : Spec Tryz.prog [] 62 [.int .i64 s1] (.bool b7)) (f8 : Spec Tryz.prog [] 62 [.int .i64 s2] (.bool b8))
  (hb : (b1 = false ∨ b2 = false) ∨ (b3 = false ∨ b4 = false) ∨ (b5 = false ∨ b6 = false) ∨ (b7 = false ∨ b8 = false)) :
  Spec Tryz.prog [] 74 [bx xa xb xc xd xw, bx ya yb yc yd yw] (bx 0 0 0 0 true) := by
 refine spec_fn T_ok mixed_ok 0 Tryz.func74 fn_ok74 (by kernel_rfl) ?_
 first | refine Exists.intro _ (And.intro (sx) ?_) | refine Hn_by (Exists.intro _ (And.intro (sx) ?_))
 repeat (first | refine gT ?_ | refine gF ?_ | refine brT ?_ | refine brF ?_)
 first | refine Exists.intro _ (And.intro (sy) ?_) | refine Hn_by (Exists.intro _ (And.intro (sy) ?_))
 repeat (first | refine gT ?_ | refine gF ?_ | refine brT ?_ | refine brF ?_)
 first | refine Exists.intro _ (And.intro (k1) ?_) | refine Hn_by (Exists.intro _ (And.intro (k1) ?_))
 first | refine Exists.intro _ (And.intro (k2) ?_) | refine Hn_by (Exists.intro _ (And.intro (k2) ?_))
 first | refine Exists.intro _ (And.intro (k3) ?_) | refine Hn_by (Exists.intro _ (And.intro (k3) ?_))
 first | refine Exists.intro _ (And.intro (k4) ?_) | refine Hn_by (Exists.intro _ (And.intro (k4) ?_))
 refine aw_loop (fun i : Nat => stOf [(4, .bp 2 0), (9, .bp 7 0), (10, .bp 8 0), (11, .bp 9 0), (12, .bp 10 0), (13, .ms 11 0 4), (14, .int .i64 (i : Int))] [(2, .box [.int .i64 0, .int .i64 0, .int .i64 0, .int .i64 0, .bool false]), (7, .box [.int .i64 p1, .int .i64 p2]), (8, .box [.int .i64 q1, .int .i64 q2]), (9, .box [.int .i64 r1, .int .i64 r2]), (10, .box [.int .i64 s1, .int .i64 s2]), (11, .arr (115, 2) [[.int .i64 p1, .int .i64 p2], [.int .i64 q1, .int .i64 q2], [.int .i64 r1, .int .i64 r2], [.int .i64 s1, .int .i64 s2]] true)] 12)
  (fun i => i <= 4 ∧ (0 < i -> b1 = true ∧ b2 = true) ∧ (1 < i -> b3 = true ∧ b4 = true) ∧ (2 < i -> b5 = true ∧ b6 = true) ∧ (3 < i -> b7 = true ∧ b8 = true)) (fun i => 4 - i) 0 ⟨Nat.zero_le _, fun e => absurd e (by decide), fun e => absurd e (by decide), fun e => absurd e (by decide), fun e => absurd e (by decide)⟩
  (le_by ⟨rfl, rfl, rfl, rfl, rfl, rfl, rfl, trivial⟩ ⟨rfl, rfl, rfl, rfl, rfl, rfl, trivial⟩ (Nat.le_refl _)) ?_
 rintro i ⟨hi, j1, j2, j3, j4⟩ P hP
 obtain rfl | rfl | rfl | rfl | rfl : i = 0 ∨ i = 1 ∨ i = 2 ∨ i = 3 ∨ i = 4 := by omega
 ·cases b1 with
  | false =>
   clear hP
   repeat (first | refine gT ?_ | refine gF ?_ | refine brT ?_ | refine brF ?_)
   refine And.intro (by decide) (And.intro (by decide) ?_)
   repeat (first | refine gT ?_ | refine gF ?_ | refine brT ?_ | refine brF ?_)
   refine Exists.intro ([.int .i64 p1, .int .i64 p2] : List AV) ?_
   refine And.intro rfl ?_
   repeat (first | refine gT ?_ | refine gF ?_ | refine brT ?_ | refine brF ?_)
   first | refine Exists.intro _ (And.intro (f1) ?_) | refine Hn_by (Exists.intro _ (And.intro (f1) ?_))
   repeat (first | refine gT ?_ | refine gF ?_ | refine brT ?_ | refine brF ?_)
   exact And.intro (Or.inr rfl) rfl
  | true =>
   cases b2 with
   | false =>
    clear hP
    repeat (first | refine gT ?_ | refine gF ?_ | refine brT ?_ | refine brF ?_)
    refine And.intro (by decide) (And.intro (by decide) ?_)
    repeat (first | refine gT ?_ | refine gF ?_ | refine brT ?_ | refine brF ?_)
    refine Exists.intro ([.int .i64 p1, .int .i64 p2] : List AV) ?_
    refine And.intro rfl ?_
    repeat (first | refine gT ?_ | refine gF ?_ | refine brT ?_ | refine brF ?_)
    first | refine Exists.intro _ (And.intro (f1) ?_) | refine Hn_by (Exists.intro _ (And.intro (f1) ?_))
    repeat (first | refine gT ?_ | refine gF ?_ | refine brT ?_ | refine brF ?_)
    refine And.intro (by decide) (And.intro (by decide) ?_)
    repeat (first | refine gT ?_ | refine gF ?_ | refine brT ?_ | refine brF ?_)
    refine Exists.intro ([.int .i64 p1, .int .i64 p2] : List AV) ?_
    refine And.intro rfl ?_
    repeat (first | refine gT ?_ | refine gF ?_ | refine brT ?_ | refine brF ?_)
    first | refine Exists.intro _ (And.intro (f2) ?_) | refine Hn_by (Exists.intro _ (And.intro (f2) ?_))
    repeat (first | refine gT ?_ | refine gF ?_ | refine brT ?_ | refine brF ?_)
    exact And.intro (Or.inr rfl) rfl
   | true =>
    repeat (first | refine gT ?_ | refine gF ?_ | refine brT ?_ | refine brF ?_)
    refine And.intro (by decide) (And.intro (by decide) ?_)
    repeat (first | refine gT ?_ | refine gF ?_ | refine brT ?_ | refine brF ?_)
    refine Exists.intro ([.int .i64 p1, .int .i64 p2] : List AV) ?_
    refine And.intro rfl ?_
    repeat (first | refine gT ?_ | refine gF ?_ | refine brT ?_ | refine brF ?_)
    first | refine Exists.intro _ (And.intro (f1) ?_) | refine Hn_by (Exists.intro _ (And.intro (f1) ?_))
    repeat (first | refine gT ?_ | refine gF ?_ | refine brT ?_ | refine brF ?_)
    refine And.intro (by decide) (And.intro (by decide) ?_)
    repeat (first | refine gT ?_ | refine gF ?_ | refine brT ?_ | refine brF ?_)
    refine Exists.intro ([.int .i64 p1, .int .i64 p2] : List AV) ?_
    refine And.intro rfl ?_
    repeat (first | refine gT ?_ | refine gF ?_ | refine brT ?_ | refine brF ?_)
    first | refine Exists.intro _ (And.intro (f2) ?_) | refine Hn_by (Exists.intro _ (And.intro (f2) ?_))
    repeat (first | refine gT ?_ | refine gF ?_ | refine brT ?_ | refine brF ?_)
    exact hP 1 _ (le_by ⟨rfl, rfl, rfl, rfl, rfl, rfl, rfl, trivial⟩ ⟨rfl, rfl, rfl, rfl, rfl, rfl, trivial⟩ (Nat.le_refl _)) ⟨by decide, fun _ => ⟨rfl, rfl⟩, fun e => absurd e (by decide), fun e => absurd e (by decide), fun e => absurd e (by decide)⟩ (by decide)
 ·cases b3 with
  | false =>
   clear hP
   repeat (first | refine gT ?_ | refine gF ?_ | refine brT ?_ | refine brF ?_)
   refine And.intro (by decide) (And.intro (by decide) ?_)
   repeat (first | refine gT ?_ | refine gF ?_ | refine brT ?_ | refine brF ?_)
   refine Exists.intro ([.int .i64 q1, .int .i64 q2] : List AV) ?_
   refine And.intro rfl ?_
   repeat (first | refine gT ?_ | refine gF ?_ | refine brT ?_ | refine brF ?_)
   first | refine Exists.intro _ (And.intro (f3) ?_) | refine Hn_by (Exists.intro _ (And.intro (f3) ?_))
   repeat (first | refine gT ?_ | refine gF ?_ | refine brT ?_ | refine brF ?_)
   exact And.intro (Or.inr rfl) rfl
  | true =>
   cases b4 with
   | false =>
    clear hP
    repeat (first | refine gT ?_ | refine gF ?_ | refine brT ?_ | refine brF ?_)
    refine And.intro (by decide) (And.intro (by decide) ?_)
    repeat (first | refine gT ?_ | refine gF ?_ | refine brT ?_ | refine brF ?_)
    refine Exists.intro ([.int .i64 q1, .int .i64 q2] : List AV) ?_
    refine And.intro rfl ?_
    repeat (first | refine gT ?_ | refine gF ?_ | refine brT ?_ | refine brF ?_)
    first | refine Exists.intro _ (And.intro (f3) ?_) | refine Hn_by (Exists.intro _ (And.intro (f3) ?_))
    repeat (first | refine gT ?_ | refine gF ?_ | refine brT ?_ | refine brF ?_)
    refine And.intro (by decide) (And.intro (by decide) ?_)
    repeat (first | refine gT ?_ | refine gF ?_ | refine brT ?_ | refine brF ?_)
    refine Exists.intro ([.int .i64 q1, .int .i64 q2] : List AV) ?_
    refine And.intro rfl ?_
    repeat (first | refine gT ?_ | refine gF ?_ | refine brT ?_ | refine brF ?_)
    first | refine Exists.intro _ (And.intro (f4) ?_) | refine Hn_by (Exists.intro _ (And.intro (f4) ?_))
    repeat (first | refine gT ?_ | refine gF ?_ | refine brT ?_ | refine brF ?_)
    exact And.intro (Or.inr rfl) rfl
   | true =>
    repeat (first | refine gT ?_ | refine gF ?_ | refine brT ?_ | refine brF ?_)
    refine And.intro (by decide) (And.intro (by decide) ?_)
    repeat (first | refine gT ?_ | refine gF ?_ | refine brT ?_ | refine brF ?_)
    refine Exists.intro ([.int .i64 q1, .int .i64 q2] : List AV) ?_
    refine And.intro rfl ?_
    repeat (first | refine gT ?_ | refine gF ?_ | refine brT ?_ | refine brF ?_)
    first | refine Exists.intro _ (And.intro (f3) ?_) | refine Hn_by (Exists.intro _ (And.intro (f3) ?_))
    repeat (first | refine gT ?_ | refine gF ?_ | refine brT ?_ | refine brF ?_)
    refine And.intro (by decide) (And.intro (by decide) ?_)
    repeat (first | refine gT ?_ | refine gF ?_ | refine brT ?_ | refine brF ?_)
    refine Exists.intro ([.int .i64 q1, .int .i64 q2] : List AV) ?_
    refine And.intro rfl ?_
    repeat (first | refine gT ?_ | refine gF ?_ | refine brT ?_ | refine brF ?_)
    first | refine Exists.intro _ (And.intro (f4) ?_) | refine Hn_by (Exists.intro _ (And.intro (f4) ?_))
    repeat (first | refine gT ?_ | refine gF ?_ | refine brT ?_ | refine brF ?_)
    exact hP 2 _ (le_by ⟨rfl, rfl, rfl, rfl, rfl, rfl, rfl, trivial⟩ ⟨rfl, rfl, rfl, rfl, rfl, rfl, trivial⟩ (Nat.le_refl _)) ⟨by decide, fun _ => j1 (by decide), fun _ => ⟨rfl, rfl⟩, fun e => absurd e (by decide), fun e => absurd e (by decide)⟩ (by decide)
 ·cases b5 with
  | false =>
   clear hP
   repeat (first | refine gT ?_ | refine gF ?_ | refine brT ?_ | refine brF ?_)
   refine And.intro (by decide) (And.intro (by decide) ?_)
   repeat (first | refine gT ?_ | refine gF ?_ | refine brT ?_ | refine brF ?_)
   refine Exists.intro ([.int .i64 r1, .int .i64 r2] : List AV) ?_
   refine And.intro rfl ?_
   repeat (first | refine gT ?_ | refine gF ?_ | refine brT ?_ | refine brF ?_)
   first | refine Exists.intro _ (And.intro (f5) ?_) | refine Hn_by (Exists.intro _ (And.intro (f5) ?_))
   repeat (first | refine gT ?_ | refine gF ?_ | refine brT ?_ | refine brF ?_)
   exact And.intro (Or.inr rfl) rfl
  | true =>
   cases b6 with
   | false =>
    clear hP
    repeat (first | refine gT ?_ | refine gF ?_ | refine brT ?_ | refine brF ?_)
    refine And.intro (by decide) (And.intro (by decide) ?_)
    repeat (first | refine gT ?_ | refine gF ?_ | refine brT ?_ | refine brF ?_)
    refine Exists.intro ([.int .i64 r1, .int .i64 r2] : List AV) ?_
    refine And.intro rfl ?_
    repeat (first | refine gT ?_ | refine gF ?_ | refine brT ?_ | refine brF ?_)
    first | refine Exists.intro _ (And.intro (f5) ?_) | refine Hn_by (Exists.intro _ (And.intro (f5) ?_))
    repeat (first | refine gT ?_ | refine gF ?_ | refine brT ?_ | refine brF ?_)
    refine And.intro (by decide) (And.intro (by decide) ?_)
    repeat (first | refine gT ?_ | refine gF ?_ | refine brT ?_ | refine brF ?_)
    refine Exists.intro ([.int .i64 r1, .int .i64 r2] : List AV) ?_
    refine And.intro rfl ?_
    repeat (first | refine gT ?_ | refine gF ?_ | refine brT ?_ | refine brF ?_)
    first | refine Exists.intro _ (And.intro (f6) ?_) | refine Hn_by (Exists.intro _ (And.intro (f6) ?_))
    repeat (first | refine gT ?_ | refine gF ?_ | refine brT ?_ | refine brF ?_)
    exact And.intro (Or.inr rfl) rfl
   | true =>
    repeat (first | refine gT ?_ | refine gF ?_ | refine brT ?_ | refine brF ?_)
    refine And.intro (by decide) (And.intro (by decide) ?_)
    repeat (first | refine gT ?_ | refine gF ?_ | refine brT ?_ | refine brF ?_)
    refine Exists.intro ([.int .i64 r1, .int .i64 r2] : List AV) ?_
    refine And.intro rfl ?_
    repeat (first | refine gT ?_ | refine gF ?_ | refine brT ?_ | refine brF ?_)
    first | refine Exists.intro _ (And.intro (f5) ?_) | refine Hn_by (Exists.intro _ (And.intro (f5) ?_))
    repeat (first | refine gT ?_ | refine gF ?_ | refine brT ?_ | refine brF ?_)
    refine And.intro (by decide) (And.intro (by decide) ?_)
    repeat (first | refine gT ?_ | refine gF ?_ | refine brT ?_ | refine brF ?_)
    refine Exists.intro ([.int .i64 r1, .int .i64 r2] : List AV) ?_
    refine And.intro rfl ?_
    repeat (first | refine gT ?_ | refine gF ?_ | refine brT ?_ | refine brF ?_)
    first | refine Exists.intro _ (And.intro (f6) ?_) | refine Hn_by (Exists.intro _ (And.intro (f6) ?_))
    repeat (first | refine gT ?_ | refine gF ?_ | refine brT ?_ | refine brF ?_)
    exact hP 3 _ (le_by ⟨rfl, rfl, rfl, rfl, rfl, rfl, rfl, trivial⟩ ⟨rfl, rfl, rfl, rfl, rfl, rfl, trivial⟩ (Nat.le_refl _)) ⟨by decide, fun _ => j1 (by decide), fun _ => j2 (by decide), fun _ => ⟨rfl, rfl⟩, fun e => absurd e (by decide)⟩ (by decide)
 ·cases b7 with
  | false =>
   clear hP
   repeat (first | refine gT ?_ | refine gF ?_ | refine brT ?_ | refine brF ?_)
   refine And.intro (by decide) (And.intro (by decide) ?_)
   repeat (first | refine gT ?_ | refine gF ?_ | refine brT ?_ | refine brF ?_)
   refine Exists.intro ([.int .i64 s1, .int .i64 s2] : List AV) ?_
   refine And.intro rfl ?_
   repeat (first | refine gT ?_ | refine gF ?_ | refine brT ?_ | refine brF ?_)
   first | refine Exists.intro _ (And.intro (f7) ?_) | refine Hn_by (Exists.intro _ (And.intro (f7) ?_))
   repeat (first | refine gT ?_ | refine gF ?_ | refine brT ?_ | refine brF ?_)
   exact And.intro (Or.inr rfl) rfl
  | true =>
   cases b8 with
   | false =>
    clear hP
    repeat (first | refine gT ?_ | refine gF ?_ | refine brT ?_ | refine brF ?_)
    refine And.intro (by decide) (And.intro (by decide) ?_)
    repeat (first | refine gT ?_ | refine gF ?_ | refine brT ?_ | refine brF ?_)
    refine Exists.intro ([.int .i64 s1, .int .i64 s2] : List AV) ?_
    refine And.intro rfl ?_
    repeat (first | refine gT ?_ | refine gF ?_ | refine brT ?_ | refine brF ?_)
    first | refine Exists.intro _ (And.intro (f7) ?_) | refine Hn_by (Exists.intro _ (And.intro (f7) ?_))
    repeat (first | refine gT ?_ | refine gF ?_ | refine brT ?_ | refine brF ?_)
    refine And.intro (by decide) (And.intro (by decide) ?_)
    repeat (first | refine gT ?_ | refine gF ?_ | refine brT ?_ | refine brF ?_)
    refine Exists.intro ([.int .i64 s1, .int .i64 s2] : List AV) ?_
    refine And.intro rfl ?_
    repeat (first | refine gT ?_ | refine gF ?_ | refine brT ?_ | refine brF ?_)
    first | refine Exists.intro _ (And.intro (f8) ?_) | refine Hn_by (Exists.intro _ (And.intro (f8) ?_))
    repeat (first | refine gT ?_ | refine gF ?_ | refine brT ?_ | refine brF ?_)
    exact And.intro (Or.inr rfl) rfl
   | true =>
    repeat (first | refine gT ?_ | refine gF ?_ | refine brT ?_ | refine brF ?_)
    refine And.intro (by decide) (And.intro (by decide) ?_)
    repeat (first | refine gT ?_ | refine gF ?_ | refine brT ?_ | refine brF ?_)
    refine Exists.intro ([.int .i64 s1, .int .i64 s2] : List AV) ?_
    refine And.intro rfl ?_
    repeat (first | refine gT ?_ | refine gF ?_ | refine brT ?_ | refine brF ?_)
    first | refine Exists.intro _ (And.intro (f7) ?_) | refine Hn_by (Exists.intro _ (And.intro (f7) ?_))
    repeat (first | refine gT ?_ | refine gF ?_ | refine brT ?_ | refine brF ?_)
    refine And.intro (by decide) (And.intro (by decide) ?_)
    repeat (first | refine gT ?_ | refine gF ?_ | refine brT ?_ | refine brF ?_)
    refine Exists.intro ([.int .i64 s1, .int .i64 s2] : List AV) ?_
    refine And.intro rfl ?_
    repeat (first | refine gT ?_ | refine gF ?_ | refine brT ?_ | refine brF ?_)
    first | refine Exists.intro _ (And.intro (f8) ?_) | refine Hn_by (Exists.intro _ (And.intro (f8) ?_))
    repeat (first | refine gT ?_ | refine gF ?_ | refine brT ?_ | refine brF ?_)
    exact hP 4 _ (le_by ⟨rfl, rfl, rfl, rfl, rfl, rfl, rfl, trivial⟩ ⟨rfl, rfl, rfl, rfl, rfl, rfl, trivial⟩ (Nat.le_refl _)) ⟨by decide, fun _ => j1 (by decide), fun _ => j2 (by decide), fun _ => j3 (by decide), fun _ => ⟨rfl, rfl⟩⟩ (by decide)
 ·exfalso
  obtain ⟨e1, e2⟩ := j1 (by decide)
  obtain ⟨e3, e4⟩ := j2 (by decide)
  obtain ⟨e5, e6⟩ := j3 (by decide)
  obtain ⟨e7, e8⟩ := j4 (by decide)
  rw [e1, e2, e3, e4, e5, e6, e7, e8] at hb
  simp at hb
theorem mul16_spec (x y : Bx) : Spec Tryz.prog [] 74 [x.av, y.av] (applyF mulF x y).av := by
 rcases checked_cases x with ex | ⟨_, hx⟩
 ·rw [op2_wide1 ex]
  have sx := wide_true ex
  obtain ⟨xa, xb, xc, xd, xw⟩ := x
  obtain ⟨ya, yb, yc, yd, yw⟩ := y
  refine spec_fn T_ok mixed_ok 0 Tryz.func74 fn_ok74 (by kernel_rfl) ?_
  first | refine Exists.intro _ (And.intro (sx) ?_) | refine Hn_by (Exists.intro _ (And.intro (sx) ?_))
  repeat (first | refine gT ?_ | refine gF ?_ | refine brT ?_ | refine brF ?_)
  exact And.intro (Or.inr rfl) rfl
 rcases checked_cases y with ey | ⟨_, hy⟩
 ·rw [op2_wide2 ey]
  have sx := wide_false hx
  have sy := wide_true ey
  obtain ⟨xa, xb, xc, xd, xw⟩ := x
  obtain ⟨ya, yb, yc, yd, yw⟩ := y
  refine spec_fn T_ok mixed_ok 0 Tryz.func74 fn_ok74 (by kernel_rfl) ?_
  first | refine Exists.intro _ (And.intro (sx) ?_) | refine Hn_by (Exists.intro _ (And.intro (sx) ?_))
  repeat (first | refine gT ?_ | refine gF ?_ | refine brT ?_ | refine brF ?_)
  first | refine Exists.intro _ (And.intro (sy) ?_) | refine Hn_by (Exists.intro _ (And.intro (sy) ?_))
  repeat (first | refine gT ?_ | refine gF ?_ | refine brT ?_ | refine brF ?_)
  exact And.intro (Or.inr rfl) rfl
 have sx := wide_false hx
 have sy := wide_false hy
 rw [apply_vb hx hy]
 obtain ⟨x1, x2, x3, x4⟩ := hx.sm
 obtain ⟨y1, y2, y3, y4⟩ := hy.sm
 have k1 := product16_spec (a := ⟨x.a, x.b⟩) (b := ⟨y.a, y.b⟩) x1 x2 y1 y2
 have k2 := product16_spec (a := ⟨x.c, x.d⟩) (b := ⟨y.c, y.d⟩) x3 x4 y3 y4
 have k3 := product16_spec (a := ⟨x.a, x.b⟩) (b := ⟨y.c, y.d⟩) x1 x2 y3 y4
 have k4 := product16_spec (a := ⟨x.c, x.d⟩) (b := ⟨y.a, y.b⟩) x3 x4 y1 y2
 by_cases hc : Corners ⟨x.a, x.b⟩ ⟨y.a, y.b⟩ ∧ Corners ⟨x.c, x.d⟩ ⟨y.c, y.d⟩ ∧ Corners ⟨x.a, x.b⟩ ⟨y.c, y.d⟩ ∧ Corners ⟨x.c, x.d⟩ ⟨y.a, y.b⟩
 ·obtain ⟨c1, c2, c3, c4⟩ := hc
  rw [prod_ok c1] at k1
  rw [prod_ok c2] at k2
  rw [prod_ok c3] at k3
  rw [prod_ok c4] at k4
  have l1 := (times_ok c1 hx.2.1 hy.2.1).le
  have l2 := (times_ok c2 hx.2.2.1 hy.2.2.1).le
  have l3 := (times_ok c3 hx.2.1 hy.2.2.1).le
  have l4 := (times_ok c4 hx.2.2.1 hy.2.1).le
  have em : mulF x y = ⟨w64 ((timesF ⟨x.a, x.b⟩ ⟨y.a, y.b⟩).lo - (timesF ⟨x.c, x.d⟩ ⟨y.c, y.d⟩).hi), w64 ((timesF ⟨x.a, x.b⟩ ⟨y.a, y.b⟩).hi - (timesF ⟨x.c, x.d⟩ ⟨y.c, y.d⟩).lo), w64 ((timesF ⟨x.a, x.b⟩ ⟨y.c, y.d⟩).lo + (timesF ⟨x.c, x.d⟩ ⟨y.a, y.b⟩).lo), w64 ((timesF ⟨x.a, x.b⟩ ⟨y.c, y.d⟩).hi + (timesF ⟨x.c, x.d⟩ ⟨y.a, y.b⟩).hi), false⟩ := by
   unfold mulF
   rw [(out_iff _ _).2 c1, (out_iff _ _).2 c2, (out_iff _ _).2 c3, (out_iff _ _).2 c4]
   rfl
  rw [em]
  generalize timesF ⟨x.a, x.b⟩ ⟨y.a, y.b⟩ = t1 at *
  generalize timesF ⟨x.c, x.d⟩ ⟨y.c, y.d⟩ = t2 at *
  generalize timesF ⟨x.a, x.b⟩ ⟨y.c, y.d⟩ = t3 at *
  generalize timesF ⟨x.c, x.d⟩ ⟨y.a, y.b⟩ = t4 at *
  have ft : ∀ n, -MF <= n -> n <= MF -> Spec Tryz.prog [] 62 [.int .i64 n] (.bool true) := fun n g1 g2 => by
   have := fits_spec n
   rwa [show fitB n = true from decide_eq_true ⟨g1, g2⟩] at this
  have m := made16_spec (w64 (t1.lo - t2.hi)) (w64 (t1.hi - t2.lo)) (w64 (t3.lo + t4.lo)) (w64 (t3.hi + t4.hi))
  have e := made_checked (a := w64 (t1.lo - t2.hi)) (b := w64 (t1.hi - t2.lo)) (c := w64 (t3.lo + t4.lo)) (d := w64 (t3.hi + t4.hi)) (by
   unfold MF at l1 l2
   rw [w64_eq (by omega), w64_eq (by omega)]; omega) (by
   unfold MF at l3 l4
   rw [w64_eq (by omega), w64_eq (by omega)]; omega)
  rw [<- e]
  generalize madeB (w64 (t1.lo - t2.hi)) (w64 (t1.hi - t2.lo)) (w64 (t3.lo + t4.lo)) (w64 (t3.hi + t4.hi)) = z at m ⊢
  obtain ⟨za, zb, zc, zd, zw⟩ := z
  exact mul16_ok sx sy k1 k2 k3 k4 (ft _ (by omega) (by omega)) (ft _ (by omega) (by omega)) (ft _ (by omega) (by omega)) (ft _ (by omega) (by omega)) (ft _ (by omega) (by omega)) (ft _ (by omega) (by omega)) (ft _ (by omega) (by omega)) (ft _ (by omega) (by omega)) m
 ·have em : checkedF (mulF x y) = wideB := by
   rcases mulF_cases hx hy with e | ⟨e, _, _, c⟩
   ·rw [e]; exact checked_wide
   ·exact absurd c hc
  rw [em]
  refine mul16_bad sx sy k1 k2 k3 k4 (fits_spec _) (fits_spec _) (fits_spec _) (fits_spec _) (fits_spec _) (fits_spec _) (fits_spec _) (fits_spec _) ?_
  by_cases c1 : Corners ⟨x.a, x.b⟩ ⟨y.a, y.b⟩
  ·by_cases c2 : Corners ⟨x.c, x.d⟩ ⟨y.c, y.d⟩
   ·by_cases c3 : Corners ⟨x.a, x.b⟩ ⟨y.c, y.d⟩
    ·by_cases c4 : Corners ⟨x.c, x.d⟩ ⟨y.a, y.b⟩
     ·exact absurd ⟨c1, c2, c3, c4⟩ hc
     ·exact .inr (.inr (.inr (prod_bad c4)))
    ·exact .inr (.inr (.inl (prod_bad c3)))
   ·exact .inr (.inl (prod_bad c2))
  ·exact .inl (prod_bad c1)
end Ab
end
section
open Go Go.Proofs
namespace Ab
set_option maxRecDepth 100000
set_option maxHeartbeats 1000000
def upF (ex : Bool) (n : Int) : Int := match ex with | true => n | false => w64 (n + 1)
theorem root16_dn {an rn ex : Bool} {al rl : List Int} {n : Int} (s : Spec Tryz.prog [] 116 [mkI an al] (.tup [mkI rn rl, .bool ex, .int .i64 0])) (sm : Spec Tryz.prog [] 61 [mkI rn rl] (.tup [.int .i64 n, .bool true])) :
  Spec Tryz.prog [] 67 [mkI an al, .bool false] (.int .i64 n) := by
 refine spec_fn T_ok mixed_ok 0 Tryz.func67 fn_ok67 (by kernel_rfl) ?_
 first | refine Exists.intro _ (And.intro (s) ?_) | refine Hn_by (Exists.intro _ (And.intro (s) ?_))
 first | refine Exists.intro _ (And.intro (sm) ?_) | refine Hn_by (Exists.intro _ (And.intro (sm) ?_))
 repeat (first | refine gT ?_ | refine gF ?_ | refine brT ?_ | refine brF ?_)
 exact And.intro (Or.inr rfl) rfl
theorem root16_up {an rn ex : Bool} {al rl : List Int} {n : Int} (s : Spec Tryz.prog [] 116 [mkI an al] (.tup [mkI rn rl, .bool ex, .int .i64 0])) (sm : Spec Tryz.prog [] 61 [mkI rn rl] (.tup [.int .i64 n, .bool true])) :
  Spec Tryz.prog [] 67 [mkI an al, .bool true] (.int .i64 (upF ex n)) := by
 cases ex <;>
 ·refine spec_fn T_ok mixed_ok 0 Tryz.func67 fn_ok67 (by kernel_rfl) ?_
  first | refine Exists.intro _ (And.intro (s) ?_) | refine Hn_by (Exists.intro _ (And.intro (s) ?_))
  first | refine Exists.intro _ (And.intro (sm) ?_) | refine Hn_by (Exists.intro _ (And.intro (sm) ?_))
  repeat (first | refine gT ?_ | refine gF ?_ | refine brT ?_ | refine brF ?_)
  exact And.intro (Or.inr rfl) rfl
theorem root16_spec {M : Nat} (hM : M < 2 ^ 124) : Spec Tryz.prog [] 67 [mkZ (M : Int), .bool false] (.int .i64 (isq M : Int)) ∧ Spec Tryz.prog [] 67 [mkZ (M : Int), .bool true] (.int .i64 (csq M : Int)) := by
 have fM : Fits (M : Int) := fits_200 (by omega)
 obtain ⟨r, h1, h2, s⟩ := rsqrt_nat [] fM
 obtain rfl : r = isq M := isq_uniq h1 h2
 have hb : isq M < 2 ^ 62 := Nat.mul_self_lt_mul_self_iff.1 (Nat.lt_of_le_of_lt h1 (Nat.lt_of_lt_of_le hM (by decide)))
 have sm := (rsmall_int [] (z := (isq M : Int)) (fits_200 (by omega))).1 (by omega)
 refine ⟨root16_dn s sm, ?_⟩
 have u := root16_up s sm
 unfold csq
 by_cases he : isq M * isq M = M
 ·rw [decide_eq_true he] at u
  rw [if_pos he]
  exact u
 ·rw [decide_eq_false he] at u
  rw [if_neg he]
  rw [show ((isq M + 1 : Nat) : Int) = w64 ((isq M : Int) + 1) by rw [w64_eq (by omega)]; omega]
  exact u
theorem parts16_walk {x y A B p q c d r1' r2' r3' r4' : Int} {xn yn un vn wn nn xxn yyn ssn ln hn hfn mn qn pn cn dn c2 d2 : Bool} {xl yl ul vl wl nl xxl yyl ssl ll hl hfl ml ql pl cl dl c2l d2l : List Int} (o1 : Spec Tryz.prog [] 66 [.int .i64 x] (mkI xn xl)) (m1 : Spec Tryz.prog [] 141 [mkI xn xl, mkI xn xl] (.tup [mkI xxn xxl, .int .i64 0]))
  (o2 : Spec Tryz.prog [] 66 [.int .i64 y] (mkI yn yl)) (m2 : Spec Tryz.prog [] 141 [mkI yn yl, mkI yn yl] (.tup [mkI yyn yyl, .int .i64 0])) (ad : Spec Tryz.prog [] 143 [mkI xxn xxl, mkI yyn yyl] (.tup [mkI ssn ssl, .int .i64 0]))
  (r1 : Spec Tryz.prog [] 67 [mkI ssn ssl, .bool false] (.int .i64 A)) (o3 : Spec Tryz.prog [] 66 [.int .i64 (w64 (A + mx x (w64 (0 - x))))] (mkI un ul)) (sh1 : Spec Tryz.prog [] 65 [mkI un ul, .int .i64 23] (.tup [mkI ln ll, .int .i64 r1']))
  (r2 : Spec Tryz.prog [] 67 [mkI ssn ssl, .bool true] (.int .i64 B)) (o4 : Spec Tryz.prog [] 66 [.int .i64 (w64 (B + mx x (w64 (0 - x))))] (mkI vn vl)) (sh2 : Spec Tryz.prog [] 65 [mkI vn vl, .int .i64 23] (.tup [mkI hn hl, .int .i64 r2']))
  (r3 : Spec Tryz.prog [] 67 [mkI ln ll, .bool false] (.int .i64 p)) (r4 : Spec Tryz.prog [] 67 [mkI hn hl, .bool true] (.int .i64 q))
  (o5 : Spec Tryz.prog [] 66 [.int .i64 (mx y (w64 (0 - y)))] (mkI wn wl)) (sh3 : Spec Tryz.prog [] 65 [mkI wn wl, .int .i64 23] (.tup [mkI hfn hfl, .int .i64 r3']))
  (o6 : Spec Tryz.prog [] 66 [.int .i64 (w64 (0 - mx y (w64 (0 - y))))] (mkI nn nl)) (sh4 : Spec Tryz.prog [] 65 [mkI nn nl, .int .i64 23] (.tup [mkI mn ml, .int .i64 r4']))
  (o7 : Spec Tryz.prog [] 66 [.int .i64 q] (mkI qn ql)) (d1 : Spec Tryz.prog [] 108 [mkI hfn hfl, mkI qn ql] (.tup [mkI cn cl, mkI c2 c2l, .int .i64 0]))
  (o8 : Spec Tryz.prog [] 66 [.int .i64 p] (mkI pn pl)) (d2' : Spec Tryz.prog [] 108 [mkI mn ml, mkI pn pl] (.tup [mkI dn dl, mkI d2 d2l, .int .i64 0]))
  (s1 : Spec Tryz.prog [] 61 [mkI cn cl] (.tup [.int .i64 c, .bool true])) (s2 : Spec Tryz.prog [] 61 [mkI dn dl] (.tup [.int .i64 d, .bool true])) :
  Spec Tryz.prog [] 159 [.int .i64 x, .int .i64 y] (.agg [.int .i64 p, .int .i64 q, .int .i64 c, .int .i64 (w64 (0 - d))]) := by
 refine spec_fn T_ok mixed_ok 0 Tryz.func159 fn_ok159 (by kernel_rfl) ?_
 first | refine Exists.intro _ (And.intro (o1) ?_) | refine Hn_by (Exists.intro _ (And.intro (o1) ?_))
 first | refine Exists.intro _ (And.intro (o1) ?_) | refine Hn_by (Exists.intro _ (And.intro (o1) ?_))
 first | refine Exists.intro _ (And.intro (m1) ?_) | refine Hn_by (Exists.intro _ (And.intro (m1) ?_))
 first | refine Exists.intro _ (And.intro (o2) ?_) | refine Hn_by (Exists.intro _ (And.intro (o2) ?_))
 first | refine Exists.intro _ (And.intro (o2) ?_) | refine Hn_by (Exists.intro _ (And.intro (o2) ?_))
 first | refine Exists.intro _ (And.intro (m2) ?_) | refine Hn_by (Exists.intro _ (And.intro (m2) ?_))
 first | refine Exists.intro _ (And.intro (ad) ?_) | refine Hn_by (Exists.intro _ (And.intro (ad) ?_))
 first | refine Exists.intro _ (And.intro (r1) ?_) | refine Hn_by (Exists.intro _ (And.intro (r1) ?_))
 first | refine Exists.intro _ (And.intro (o3) ?_) | refine Hn_by (Exists.intro _ (And.intro (o3) ?_))
 first | refine Exists.intro _ (And.intro (sh1) ?_) | refine Hn_by (Exists.intro _ (And.intro (sh1) ?_))
 first | refine Exists.intro _ (And.intro (r2) ?_) | refine Hn_by (Exists.intro _ (And.intro (r2) ?_))
 first | refine Exists.intro _ (And.intro (o4) ?_) | refine Hn_by (Exists.intro _ (And.intro (o4) ?_))
 first | refine Exists.intro _ (And.intro (sh2) ?_) | refine Hn_by (Exists.intro _ (And.intro (sh2) ?_))
 first | refine Exists.intro _ (And.intro (r3) ?_) | refine Hn_by (Exists.intro _ (And.intro (r3) ?_))
 first | refine Exists.intro _ (And.intro (r4) ?_) | refine Hn_by (Exists.intro _ (And.intro (r4) ?_))
 first | refine Exists.intro _ (And.intro (o5) ?_) | refine Hn_by (Exists.intro _ (And.intro (o5) ?_))
 first | refine Exists.intro _ (And.intro (sh3) ?_) | refine Hn_by (Exists.intro _ (And.intro (sh3) ?_))
 first | refine Exists.intro _ (And.intro (o6) ?_) | refine Hn_by (Exists.intro _ (And.intro (o6) ?_))
 first | refine Exists.intro _ (And.intro (sh4) ?_) | refine Hn_by (Exists.intro _ (And.intro (sh4) ?_))
 refine And.intro (by kernel_rfl) ?_
 repeat (first | refine gT ?_ | refine gF ?_ | refine brT ?_ | refine brF ?_ | refine And.intro rfl ?_)
 first | refine Exists.intro _ (And.intro (o7) ?_) | refine Hn_by (Exists.intro _ (And.intro (o7) ?_))
 repeat (first | refine gT ?_ | refine gF ?_ | refine brT ?_ | refine brF ?_ | refine And.intro rfl ?_)
 first | refine Exists.intro _ (And.intro (d1) ?_) | refine Hn_by (Exists.intro _ (And.intro (d1) ?_))
 repeat (first | refine gT ?_ | refine gF ?_ | refine brT ?_ | refine brF ?_ | refine And.intro rfl ?_)
 first | refine Exists.intro _ (And.intro (o8) ?_) | refine Hn_by (Exists.intro _ (And.intro (o8) ?_))
 repeat (first | refine gT ?_ | refine gF ?_ | refine brT ?_ | refine brF ?_ | refine And.intro rfl ?_)
 first | refine Exists.intro _ (And.intro (d2') ?_) | refine Hn_by (Exists.intro _ (And.intro (d2') ?_))
 repeat (first | refine gT ?_ | refine gF ?_ | refine brT ?_ | refine brF ?_ | refine And.intro rfl ?_)
 first | refine Exists.intro _ (And.intro (s1) ?_) | refine Hn_by (Exists.intro _ (And.intro (s1) ?_))
 first | refine Exists.intro _ (And.intro (s2) ?_) | refine Hn_by (Exists.intro _ (And.intro (s2) ?_))
 exact And.intro (Or.inr rfl) rfl
theorem mx_abs {x : Int} (h : Sm x) : mx x (w64 (0 - x)) = (x.natAbs : Int) := by
 unfold Sm MF at h
 rw [w64_eq (n := 0 - x) (by omega)]
 unfold mx
 split <;> omega
theorem ceil_div {M d : Nat} (hd : 0 < d) : -((-(M : Int)) / (d : Int)) = (((M + (d - 1)) / d : Nat) : Int) := by
 have u := up_div (M := M) hd
 rw [u]
 obtain ⟨c1, c2, c3⟩ := div_cases (a := -(M : Int)) (b := (d : Int)) (by omega)
 have ea : az (-(M : Int)) = (M : Int) := by unfold az; omega
 rw [ea] at c1 c2 c3
 by_cases hm : M % d = 0
 ·rw [if_pos hm]
  by_cases h0 : M = 0
  ·subst h0; simp
  ·rw [(c2 (by omega) (by rw [<- Int.natCast_emod, hm]; rfl)).1, Int.neg_neg]
   rfl
 ·rw [if_neg hm]
  have h0 : M ≠ 0 := fun e => hm (by rw [e, Nat.zero_mod])
  rw [(c3 (by omega) (by rw [<- Int.natCast_emod]; omega)).1, Int.neg_neg]
  rfl
theorem parts16_spec {x y : Int} (hx : Sm x) (hy : Sm y) (h : x ≠ 0 ∨ y ≠ 0) : Spec Tryz.prog [] 159 [.int .i64 x, .int .i64 y] (.agg [.int .i64 (pLo x y : Int), .int .i64 (pHi x y : Int), .int .i64 (qLo x y : Int), .int .i64 (qHi x y : Int)]) := by
 have B := bnd hx hy h
 have bx := mul_bd60 hx hx
 have by' := mul_bd60 hy hy
 have ex := mx_abs hx
 have ey := mx_abs hy
 have hx' := hx
 have hy' := hy
 unfold Sm MF at hx' hy'
 have fx : Fits x := fits_i64 (by omega) (by omega)
 have fy : Fits y := fits_i64 (by omega) (by omega)
 have fxx : Fits (x * x) := fits_200 (by omega)
 have fyy : Fits (y * y) := fits_200 (by omega)
 have en : x * x + y * y = ((nrm x y : Nat) : Int) := by
  unfold nrm
  rw [Int.natCast_add, Int.natCast_mul, Int.natCast_mul, Int.natAbs_mul_self', Int.natAbs_mul_self']
 have o1 := rOf_spec [] x (by omega) (by omega)
 have o2 := rOf_spec [] y (by omega) (by omega)
 have m1 := rmul_int [] fx fx fxx
 have m2 := rmul_int [] fy fy fyy
 have ad := radd_int [] fxx fyy (fits_200 (by omega))
 rw [en] at ad
 obtain ⟨r1, r2⟩ := root16_spec B.N
 have hA := B.a
 have hB := B.b
 have hX := B.X
 have hY := B.Y
 have hpa := B.pa
 have hpb := B.pb
 have hph := B.ph
 have hpl := B.pl
 have hql := B.ql
 have hqh := B.qh
 have e23 : (2 : Int) ^ 23 = 8388608 := by decide
 have eA : w64 ((isq (nrm x y) : Int) + mx x (w64 (0 - x))) = ((isq (nrm x y) + x.natAbs : Nat) : Int) := by rw [ex, w64_eq (by omega)]; omega
 have eB : w64 ((csq (nrm x y) : Int) + mx x (w64 (0 - x))) = ((csq (nrm x y) + x.natAbs : Nat) : Int) := by rw [ex, w64_eq (by omega)]; omega
 have o3 := rOf_spec [] ((isq (nrm x y) + x.natAbs : Nat) : Int) (by omega) (by omega)
 have o4 := rOf_spec [] ((csq (nrm x y) + x.natAbs : Nat) : Int) (by omega) (by omega)
 have sh1 := rshl_int [] (a := ((isq (nrm x y) + x.natAbs : Nat) : Int)) (fits_200 (by omega)) (n := 23) (by decide) (fits_200 (by rw [e23]; omega))
 have sh2 := rshl_int [] (a := ((csq (nrm x y) + x.natAbs : Nat) : Int)) (fits_200 (by omega)) (n := 23) (by decide) (fits_200 (by rw [e23]; omega))
 rw [e23, show ((isq (nrm x y) + x.natAbs : Nat) : Int) * 8388608 = (((isq (nrm x y) + x.natAbs) * 8388608 : Nat) : Int) by omega] at sh1
 rw [e23, show ((csq (nrm x y) + x.natAbs : Nat) : Int) * 8388608 = (((csq (nrm x y) + x.natAbs) * 8388608 : Nat) : Int) by omega] at sh2
 have r3 := (root16_spec hpa).1
 have r4 := (root16_spec hpb).2
 have o3' : Spec Tryz.prog [] 66 [.int .i64 (w64 ((isq (nrm x y) : Int) + mx x (w64 (0 - x))))] (mkZ ((isq (nrm x y) + x.natAbs : Nat) : Int)) := by rw [eA]; exact o3
 have o4' : Spec Tryz.prog [] 66 [.int .i64 (w64 ((csq (nrm x y) : Int) + mx x (w64 (0 - x))))] (mkZ ((csq (nrm x y) + x.natAbs : Nat) : Int)) := by rw [eB]; exact o4
 have fY : Fits ((y.natAbs : Nat) : Int) := fits_200 (by omega)
 have fYn : Fits (-((y.natAbs : Nat) : Int)) := fits_200 (by omega)
 have o5 := rOf_spec [] ((y.natAbs : Nat) : Int) (by omega) (by omega)
 have o6 := rOf_spec [] (-((y.natAbs : Nat) : Int)) (by omega) (by omega)
 have sh3 := rshl_int [] fY (n := 23) (by decide) (fits_200 (by rw [e23]; omega))
 have sh4 := rshl_int [] fYn (n := 23) (by decide) (fits_200 (by rw [e23]; omega))
 rw [e23] at sh3 sh4
 have eY : w64 (0 - mx y (w64 (0 - y))) = -((y.natAbs : Nat) : Int) := by rw [ey, w64_eq (by omega)]; omega
 have o5' : Spec Tryz.prog [] 66 [.int .i64 (mx y (w64 (0 - y)))] (mkZ ((y.natAbs : Nat) : Int)) := by rw [ey]; exact o5
 have o6' : Spec Tryz.prog [] 66 [.int .i64 (w64 (0 - mx y (w64 (0 - y))))] (mkZ (-((y.natAbs : Nat) : Int))) := by rw [eY]; exact o6
 have o7 := rOf_spec [] ((pHi x y : Nat) : Int) (by omega) (by omega)
 have o8 := rOf_spec [] ((pLo x y : Nat) : Int) (by omega) (by omega)
 have d1 := rdmod_int [] (a := ((y.natAbs : Nat) : Int) * 8388608) (b := ((pHi x y : Nat) : Int)) (fits_200 (by omega)) (fits_200 (by omega)) (by omega)
 have d2 := rdmod_int [] (a := -((y.natAbs : Nat) : Int) * 8388608) (b := ((pLo x y : Nat) : Int)) (fits_200 (by omega)) (fits_200 (by omega)) (by omega)
 have ec : ((y.natAbs : Nat) : Int) * 8388608 / ((pHi x y : Nat) : Int) = (qLo x y : Int) := by
  unfold qLo
  rw [Int.natCast_ediv, Int.natCast_mul]; rfl
 have ed : -((y.natAbs : Nat) : Int) * 8388608 / ((pLo x y : Nat) : Int) = -(qHi x y : Int) := by
  have := ceil_div (M := y.natAbs * 8388608) (d := pLo x y) hpl.1
  unfold qHi
  rw [<- this, Int.neg_neg, Int.natCast_mul, Int.neg_mul]; rfl
 rw [ec] at d1
 rw [ed] at d2
 have qb : qLo x y <= pLo x y + 2 := hqh
 have qb2 : qHi x y <= pLo x y + 3 := by
  have u := up_div (M := y.natAbs * 8388608) hpl.1
  unfold qHi
  rw [u]
  split <;> omega
 have s1 := (rsmall_int [] (z := (qLo x y : Int)) (fits_200 (by omega))).1 (by omega)
 have s2 := (rsmall_int [] (z := -(qHi x y : Int)) (fits_200 (by omega))).1 (by omega)
 have w := parts16_walk o1 m1 o2 m2 ad r1 o3' sh1 r2 o4' sh2 r3 r4 o5' sh3 o6' sh4 o7 d1 o8 d2 s1 s2
 rw [show w64 (0 - -(qHi x y : Int)) = (qHi x y : Int) by rw [w64_eq (by omega)]; omega] at w
 exact w
end Ab
end
section
open Go Go.Proofs
namespace Ab
set_option maxRecDepth 100000
set_option maxHeartbeats 1000000
theorem u16_lo {x y a b c d : Int} (s : Spec Tryz.prog [] 159 [.int .i64 x, .int .i64 y] (.agg [.int .i64 a, .int .i64 b, .int .i64 c, .int .i64 d])) : Spec Tryz.prog [] 147 [.int .i64 x, .int .i64 y, .int .i64 0] (.int .i64 (if x < 0 then c else a)) := by
 by_cases h : x < 0
 ·rw [if_pos h]
  refine spec_fn T_ok mixed_ok 0 Tryz.func147 fn_ok147 (by kernel_rfl) ?_
  first | refine Exists.intro _ (And.intro (s) ?_) | refine Hn_by (Exists.intro _ (And.intro (s) ?_))
  refine br (fun _ => ?_) (fun g => absurd h g)
  refine And.intro (by decide) (And.intro (by decide) ?_)
  exact And.intro (Or.inr rfl) rfl
 ·rw [if_neg h]
  refine spec_fn T_ok mixed_ok 0 Tryz.func147 fn_ok147 (by kernel_rfl) ?_
  first | refine Exists.intro _ (And.intro (s) ?_) | refine Hn_by (Exists.intro _ (And.intro (s) ?_))
  refine br (fun g => absurd g h) (fun _ => ?_)
  refine And.intro (by decide) (And.intro (by decide) ?_)
  exact And.intro (Or.inr rfl) rfl
theorem u16_hi {x y a b c d : Int} (s : Spec Tryz.prog [] 159 [.int .i64 x, .int .i64 y] (.agg [.int .i64 a, .int .i64 b, .int .i64 c, .int .i64 d])) : Spec Tryz.prog [] 147 [.int .i64 x, .int .i64 y, .int .i64 1] (.int .i64 (if x < 0 then d else b)) := by
 by_cases h : x < 0
 ·rw [if_pos h]
  refine spec_fn T_ok mixed_ok 0 Tryz.func147 fn_ok147 (by kernel_rfl) ?_
  first | refine Exists.intro _ (And.intro (s) ?_) | refine Hn_by (Exists.intro _ (And.intro (s) ?_))
  refine br (fun _ => ?_) (fun g => absurd h g)
  refine And.intro (by decide) (And.intro (by decide) ?_)
  exact And.intro (Or.inr rfl) rfl
 ·rw [if_neg h]
  refine spec_fn T_ok mixed_ok 0 Tryz.func147 fn_ok147 (by kernel_rfl) ?_
  first | refine Exists.intro _ (And.intro (s) ?_) | refine Hn_by (Exists.intro _ (And.intro (s) ?_))
  refine br (fun g => absurd g h) (fun _ => ?_)
  refine And.intro (by decide) (And.intro (by decide) ?_)
  exact And.intro (Or.inr rfl) rfl
theorem v16_lo {x y a b c d : Int} (s : Spec Tryz.prog [] 159 [.int .i64 x, .int .i64 y] (.agg [.int .i64 a, .int .i64 b, .int .i64 c, .int .i64 d])) : Spec Tryz.prog [] 148 [.int .i64 x, .int .i64 y, .int .i64 0] (.int .i64 (if x < 0 then a else c)) := by
 by_cases h : x < 0
 ·rw [if_pos h]
  refine spec_fn T_ok mixed_ok 0 Tryz.func148 fn_ok148 (by kernel_rfl) ?_
  first | refine Exists.intro _ (And.intro (s) ?_) | refine Hn_by (Exists.intro _ (And.intro (s) ?_))
  refine br (fun _ => ?_) (fun g => absurd h g)
  refine And.intro (by decide) (And.intro (by decide) ?_)
  exact And.intro (Or.inr rfl) rfl
 ·rw [if_neg h]
  refine spec_fn T_ok mixed_ok 0 Tryz.func148 fn_ok148 (by kernel_rfl) ?_
  first | refine Exists.intro _ (And.intro (s) ?_) | refine Hn_by (Exists.intro _ (And.intro (s) ?_))
  refine br (fun g => absurd g h) (fun _ => ?_)
  refine And.intro (by decide) (And.intro (by decide) ?_)
  exact And.intro (Or.inr rfl) rfl
theorem v16_hi {x y a b c d : Int} (s : Spec Tryz.prog [] 159 [.int .i64 x, .int .i64 y] (.agg [.int .i64 a, .int .i64 b, .int .i64 c, .int .i64 d])) : Spec Tryz.prog [] 148 [.int .i64 x, .int .i64 y, .int .i64 1] (.int .i64 (if x < 0 then b else d)) := by
 by_cases h : x < 0
 ·rw [if_pos h]
  refine spec_fn T_ok mixed_ok 0 Tryz.func148 fn_ok148 (by kernel_rfl) ?_
  first | refine Exists.intro _ (And.intro (s) ?_) | refine Hn_by (Exists.intro _ (And.intro (s) ?_))
  refine br (fun _ => ?_) (fun g => absurd h g)
  refine And.intro (by decide) (And.intro (by decide) ?_)
  exact And.intro (Or.inr rfl) rfl
 ·rw [if_neg h]
  refine spec_fn T_ok mixed_ok 0 Tryz.func148 fn_ok148 (by kernel_rfl) ?_
  first | refine Exists.intro _ (And.intro (s) ?_) | refine Hn_by (Exists.intro _ (And.intro (s) ?_))
  refine br (fun g => absurd g h) (fun _ => ?_)
  refine And.intro (by decide) (And.intro (by decide) ?_)
  exact And.intro (Or.inr rfl) rfl
theorem uv16 {x y : Int} (hx : Sm x) (hy : Sm y) (h : x ≠ 0 ∨ y ≠ 0) : Spec Tryz.prog [] 147 [.int .i64 x, .int .i64 y, .int .i64 0] (.int .i64 (reF x y).lo) ∧ Spec Tryz.prog [] 147 [.int .i64 x, .int .i64 y, .int .i64 1] (.int .i64 (reF x y).hi) ∧
  Spec Tryz.prog [] 148 [.int .i64 x, .int .i64 y, .int .i64 0] (.int .i64 (imF x y).lo) ∧ Spec Tryz.prog [] 148 [.int .i64 x, .int .i64 y, .int .i64 1] (.int .i64 (imF x y).hi) := by
 have s := parts16_spec hx hy h
 have a := u16_lo s
 have b := u16_hi s
 have c := v16_lo s
 have d := v16_hi s
 unfold reF imF
 by_cases g : x < 0
 ·rw [if_pos g] at a b c d ⊢
  rw [if_pos g]
  exact ⟨a, b, c, d⟩
 ·rw [if_neg g] at a b c d ⊢
  rw [if_neg g]
  exact ⟨a, b, c, d⟩
theorem right16_walk {xa xb xc xd p q o1 i1 o2 i2 : Int} {xw : Bool} {r : Bx} (s1 : Spec Tryz.prog [] 147 [.int .i64 xa, .int .i64 (mx (mx xc (w64 (0 - xd))) 0), .int .i64 0] (.int .i64 p)) (s2 : Spec Tryz.prog [] 147 [.int .i64 xb, .int .i64 (mx xd (w64 (0 - xc))), .int .i64 1] (.int .i64 q))
  (t1 : Spec Tryz.prog [] 148 [.int .i64 xa, .int .i64 xd, .int .i64 1] (.int .i64 o1)) (t2 : Spec Tryz.prog [] 148 [.int .i64 xb, .int .i64 xd, .int .i64 0] (.int .i64 i1))
  (t3 : Spec Tryz.prog [] 148 [.int .i64 xa, .int .i64 xc, .int .i64 1] (.int .i64 o2)) (t4 : Spec Tryz.prog [] 148 [.int .i64 xb, .int .i64 xc, .int .i64 0] (.int .i64 i2))
  (h1 : xd ≥ 0 -> xc <= 0 -> r = ⟨p, q, w64 (0 - o2), o1, false⟩) (h2 : xd ≥ 0 -> ¬ xc <= 0 -> r = ⟨p, q, i2, o1, false⟩) (h3 : ¬ xd ≥ 0 -> xc <= 0 -> r = ⟨p, q, w64 (0 - o2), w64 (0 - i1), false⟩) (h4 : ¬ xd ≥ 0 -> ¬ xc <= 0 -> r = ⟨p, q, i2, w64 (0 - i1), false⟩) :
  Spec Tryz.prog [] 117 [bx xa xb xc xd xw] r.av := by
 by_cases hd : xd ≥ 0
 ·by_cases hc : xc <= 0
  ·rw [h1 hd hc]
   refine spec_fn T_ok mixed_ok 0 Tryz.func117 fn_ok117 (by kernel_rfl) ?_
   refine And.intro (by kernel_rfl) ?_
   repeat (first | refine gT ?_ | refine gF ?_ | refine brT ?_ | refine brF ?_ | refine And.intro rfl ?_)
   first | refine Exists.intro _ (And.intro (s1) ?_) | refine Hn_by (Exists.intro _ (And.intro (s1) ?_))
   repeat (first | refine gT ?_ | refine gF ?_ | refine brT ?_ | refine brF ?_ | refine And.intro rfl ?_)
   first | refine Exists.intro _ (And.intro (s2) ?_) | refine Hn_by (Exists.intro _ (And.intro (s2) ?_))
   repeat (first | refine gT ?_ | refine gF ?_ | refine brT ?_ | refine brF ?_ | refine And.intro rfl ?_)
   refine br (fun _ => ?_) (fun h => absurd hd h)
   first | refine Exists.intro _ (And.intro (t1) ?_) | refine Hn_by (Exists.intro _ (And.intro (t1) ?_))
   refine br (fun _ => ?_) (fun h => absurd hc h)
   first | refine Exists.intro _ (And.intro (t3) ?_) | refine Hn_by (Exists.intro _ (And.intro (t3) ?_))
   exact And.intro (Or.inr rfl) rfl
  ·rw [h2 hd hc]
   refine spec_fn T_ok mixed_ok 0 Tryz.func117 fn_ok117 (by kernel_rfl) ?_
   refine And.intro (by kernel_rfl) ?_
   repeat (first | refine gT ?_ | refine gF ?_ | refine brT ?_ | refine brF ?_ | refine And.intro rfl ?_)
   first | refine Exists.intro _ (And.intro (s1) ?_) | refine Hn_by (Exists.intro _ (And.intro (s1) ?_))
   repeat (first | refine gT ?_ | refine gF ?_ | refine brT ?_ | refine brF ?_ | refine And.intro rfl ?_)
   first | refine Exists.intro _ (And.intro (s2) ?_) | refine Hn_by (Exists.intro _ (And.intro (s2) ?_))
   repeat (first | refine gT ?_ | refine gF ?_ | refine brT ?_ | refine brF ?_ | refine And.intro rfl ?_)
   refine br (fun _ => ?_) (fun h => absurd hd h)
   first | refine Exists.intro _ (And.intro (t1) ?_) | refine Hn_by (Exists.intro _ (And.intro (t1) ?_))
   refine br (fun h => absurd h hc) (fun _ => ?_)
   first | refine Exists.intro _ (And.intro (t4) ?_) | refine Hn_by (Exists.intro _ (And.intro (t4) ?_))
   exact And.intro (Or.inr rfl) rfl
 ·by_cases hc : xc <= 0
  ·rw [h3 hd hc]
   refine spec_fn T_ok mixed_ok 0 Tryz.func117 fn_ok117 (by kernel_rfl) ?_
   refine And.intro (by kernel_rfl) ?_
   repeat (first | refine gT ?_ | refine gF ?_ | refine brT ?_ | refine brF ?_ | refine And.intro rfl ?_)
   first | refine Exists.intro _ (And.intro (s1) ?_) | refine Hn_by (Exists.intro _ (And.intro (s1) ?_))
   repeat (first | refine gT ?_ | refine gF ?_ | refine brT ?_ | refine brF ?_ | refine And.intro rfl ?_)
   first | refine Exists.intro _ (And.intro (s2) ?_) | refine Hn_by (Exists.intro _ (And.intro (s2) ?_))
   repeat (first | refine gT ?_ | refine gF ?_ | refine brT ?_ | refine brF ?_ | refine And.intro rfl ?_)
   refine br (fun h => absurd h hd) (fun _ => ?_)
   first | refine Exists.intro _ (And.intro (t2) ?_) | refine Hn_by (Exists.intro _ (And.intro (t2) ?_))
   refine br (fun _ => ?_) (fun h => absurd hc h)
   first | refine Exists.intro _ (And.intro (t3) ?_) | refine Hn_by (Exists.intro _ (And.intro (t3) ?_))
   exact And.intro (Or.inr rfl) rfl
  ·rw [h4 hd hc]
   refine spec_fn T_ok mixed_ok 0 Tryz.func117 fn_ok117 (by kernel_rfl) ?_
   refine And.intro (by kernel_rfl) ?_
   repeat (first | refine gT ?_ | refine gF ?_ | refine brT ?_ | refine brF ?_ | refine And.intro rfl ?_)
   first | refine Exists.intro _ (And.intro (s1) ?_) | refine Hn_by (Exists.intro _ (And.intro (s1) ?_))
   repeat (first | refine gT ?_ | refine gF ?_ | refine brT ?_ | refine brF ?_ | refine And.intro rfl ?_)
   first | refine Exists.intro _ (And.intro (s2) ?_) | refine Hn_by (Exists.intro _ (And.intro (s2) ?_))
   repeat (first | refine gT ?_ | refine gF ?_ | refine brT ?_ | refine brF ?_ | refine And.intro rfl ?_)
   refine br (fun h => absurd h hd) (fun _ => ?_)
   first | refine Exists.intro _ (And.intro (t2) ?_) | refine Hn_by (Exists.intro _ (And.intro (t2) ?_))
   refine br (fun h => absurd h hc) (fun _ => ?_)
   first | refine Exists.intro _ (And.intro (t4) ?_) | refine Hn_by (Exists.intro _ (And.intro (t4) ?_))
   exact And.intro (Or.inr rfl) rfl
theorem upper16_walk {xa xb xc xd p q r s : Int} {xw : Bool} (s1 : Spec Tryz.prog [] 147 [.int .i64 xa, .int .i64 xc, .int .i64 0] (.int .i64 p)) (s2 : Spec Tryz.prog [] 147 [.int .i64 xb, .int .i64 xd, .int .i64 1] (.int .i64 q))
  (s3 : Spec Tryz.prog [] 148 [.int .i64 xb, .int .i64 xc, .int .i64 0] (.int .i64 r)) (s4 : Spec Tryz.prog [] 148 [.int .i64 xa, .int .i64 xd, .int .i64 1] (.int .i64 s)) :
  Spec Tryz.prog [] 118 [bx xa xb xc xd xw] (bx p q r s false) := by
 refine spec_fn T_ok mixed_ok 0 Tryz.func118 fn_ok118 (by kernel_rfl) ?_
 refine And.intro (by kernel_rfl) ?_
 repeat (first | refine gT ?_ | refine gF ?_ | refine brT ?_ | refine brF ?_ | refine And.intro rfl ?_)
 first | refine Exists.intro _ (And.intro (s1) ?_) | refine Hn_by (Exists.intro _ (And.intro (s1) ?_))
 repeat (first | refine gT ?_ | refine gF ?_ | refine brT ?_ | refine brF ?_ | refine And.intro rfl ?_)
 first | refine Exists.intro _ (And.intro (s2) ?_) | refine Hn_by (Exists.intro _ (And.intro (s2) ?_))
 repeat (first | refine gT ?_ | refine gF ?_ | refine brT ?_ | refine brF ?_ | refine And.intro rfl ?_)
 first | refine Exists.intro _ (And.intro (s3) ?_) | refine Hn_by (Exists.intro _ (And.intro (s3) ?_))
 repeat (first | refine gT ?_ | refine gF ?_ | refine brT ?_ | refine brF ?_ | refine And.intro rfl ?_)
 first | refine Exists.intro _ (And.intro (s4) ?_) | refine Hn_by (Exists.intro _ (And.intro (s4) ?_))
 repeat (first | refine gT ?_ | refine gF ?_ | refine brT ?_ | refine brF ?_ | refine And.intro rfl ?_)
 exact And.intro (Or.inr rfl) rfl
theorem isqrt16_spec {n : Int} (hn : I64 n) : Spec Tryz.prog [] 25 [.int .i64 n] (.int .i64 (if n < 0 then 0 else (isq (n.toNat * 16777216) : Int))) := by
 obtain ⟨n0, n1⟩ := hn
 by_cases h : n < 0
 ·rw [if_pos h]
  refine spec_fn T_ok mixed_ok 0 Tryz.func25 fn_ok25 (by kernel_rfl) ?_
  refine br (fun _ => ?_) (fun g => absurd h g)
  exact And.intro (Or.inr rfl) rfl
 ·rw [if_neg h]
  obtain ⟨k, rfl⟩ := Int.eq_ofNat_of_zero_le (Int.not_lt.1 h)
  have o := rOf_spec [] (k : Int) (by omega) (by omega)
  have sh := rshl_int [] (a := (k : Int)) (fits_200 (by omega)) (n := 24) (by decide) (fits_200 (by rw [show (2 : Int) ^ 24 = 16777216 by decide]; omega))
  rw [show (2 : Int) ^ 24 = 16777216 by decide, show (k : Int) * 16777216 = ((k * 16777216 : Nat) : Int) by omega] at sh
  have r := (root16_spec (M := k * 16777216) (by omega)).1
  rw [Int.toNat_natCast]
  refine spec_fn T_ok mixed_ok 0 Tryz.func25 fn_ok25 (by kernel_rfl) ?_
  refine br (fun g => absurd g h) (fun _ => ?_)
  first | refine Exists.intro _ (And.intro (o) ?_) | refine Hn_by (Exists.intro _ (And.intro (o) ?_))
  first | refine Exists.intro _ (And.intro (sh) ?_) | refine Hn_by (Exists.intro _ (And.intro (sh) ?_))
  first | refine Exists.intro _ (And.intro (r) ?_) | refine Hn_by (Exists.intro _ (And.intro (r) ?_))
  exact And.intro (Or.inr rfl) rfl
end Ab
end
section
open Go Go.Proofs
namespace Ab
set_option maxRecDepth 100000
set_option maxHeartbeats 1000000
theorem right16_spec (x : Bx) (hx : Vb x) (h : 0 < x.a) : Spec Tryz.prog [] 117 [x.av] (rightF x).av := by
 obtain ⟨sa, sb, sc, sd⟩ := hx.sm
 have sb0 : x.b ≠ 0 := by have := hx.2.1; omega
 have sn : Sm (mx (mx x.c (-x.d)) 0) := by unfold Sm mx at *; (repeat' split) <;> omega
 have sf : Sm (mx x.d (-x.c)) := by unfold Sm mx at *; (repeat' split) <;> omega
 have s1 := (uv16 sa sn (.inl (by omega))).1
 have s2 := (uv16 sb sf (.inl sb0)).2.1
 have t3 := tiny sa sc (.inl (by omega))
 have t6 := tiny sb sd (.inl sb0)
 have e1 := neg_sm sd
 have e2 := neg_sm sc
 have s1' : Spec Tryz.prog [] 147 [.int .i64 x.a, .int .i64 (mx (mx x.c (w64 (0 - x.d))) 0), .int .i64 0] (.int .i64 (reF x.a (mx (mx x.c (-x.d)) 0)).lo) := by rw [e1]; exact s1
 have s2' : Spec Tryz.prog [] 147 [.int .i64 x.b, .int .i64 (mx x.d (w64 (0 - x.c))), .int .i64 1] (.int .i64 (reF x.b (mx x.d (-x.c))).hi) := by rw [e2]; exact s2
 refine right16_walk (xw := x.w) s1' s2' (uv16 sa sd (.inl (by omega))).2.2.2 (uv16 sb sd (.inl sb0)).2.2.1 (uv16 sa sc (.inl (by omega))).2.2.2 (uv16 sb sc (.inl sb0)).2.2.1 ?_ ?_ ?_ ?_
 ·intro g1 g2
  unfold rightF
  rw [if_pos g2, if_pos g1, neg_tiny t3.2.2.1 t3.2.2.2]
 ·intro g1 g2
  unfold rightF
  rw [if_neg g2, if_pos g1]
 ·intro g1 g2
  unfold rightF
  rw [if_pos g2, if_neg g1, neg_tiny t3.2.2.1 t3.2.2.2, neg_tiny t6.2.1.1 t6.2.1.2]
 ·intro g1 g2
  unfold rightF
  rw [if_neg g2, if_neg g1, neg_tiny t6.2.1.1 t6.2.1.2]
theorem upper16_spec (x : Bx) (hx : Vb x) (h : 0 < x.c) : Spec Tryz.prog [] 118 [x.av] (upperF x).av := by
 obtain ⟨sa, sb, sc, sd⟩ := hx.sm
 have sd0 : x.d ≠ 0 := by have := hx.2.2.1; omega
 exact upper16_walk (xw := x.w) (uv16 sa sc (.inr (by omega))).1 (uv16 sb sd (.inr sd0)).2.1 (uv16 sb sc (.inr (by omega))).2.2.1 (uv16 sa sd (.inr sd0)).2.2.2
theorem sqrt16_no (x : Bx) (h : meetsF x zeroB = true) : Spec Tryz.prog [] 68 [x.av] (.tup [zeroB.av, .bool false]) := by
 have s : Spec Tryz.prog [] 71 [x.av] (.bool true) := h ▸ zero16_spec x
 obtain ⟨a, b, c, d, w⟩ := x
 refine spec_fn T_ok mixed_ok 0 Tryz.func68 fn_ok68 (by kernel_rfl) ?_
 first | refine Exists.intro _ (And.intro (s) ?_) | refine Hn_by (Exists.intro _ (And.intro (s) ?_))
 repeat (first | refine gT ?_ | refine gF ?_ | refine brT ?_ | refine brF ?_)
 exact And.intro (Or.inr rfl) rfl
theorem sqrt16_right (x r : Bx) (s : Spec Tryz.prog [] 71 [x.av] (.bool false)) (h : x.a > 0) (s2 : Spec Tryz.prog [] 117 [x.av] r.av) : Spec Tryz.prog [] 68 [x.av] (.tup [r.av, .bool true]) := by
 obtain ⟨a, b, c, d, w⟩ := x
 obtain ⟨ra, rb, rc, rd, rw⟩ := r
 refine spec_fn T_ok mixed_ok 0 Tryz.func68 fn_ok68 (by kernel_rfl) ?_
 first | refine Exists.intro _ (And.intro (s) ?_) | refine Hn_by (Exists.intro _ (And.intro (s) ?_))
 repeat (first | refine gT ?_ | refine gF ?_ | refine brT ?_ | refine brF ?_)
 refine br (fun _ => ?_) (fun g => absurd h g)
 first | refine Exists.intro _ (And.intro (s2) ?_) | refine Hn_by (Exists.intro _ (And.intro (s2) ?_))
 exact And.intro (Or.inr rfl) rfl
theorem sqrt16_left (x n r : Bx) (s : Spec Tryz.prog [] 71 [x.av] (.bool false)) (h : ¬ x.a > 0) (h2 : x.b < 0) (s1 : Spec Tryz.prog [] 70 [x.av] n.av) (s2 : Spec Tryz.prog [] 117 [n.av] r.av) : Spec Tryz.prog [] 68 [x.av] (.tup [Bx.av ⟨w64 (0 - r.d), w64 (0 - r.c), r.a, r.b, false⟩, .bool true]) := by
 obtain ⟨a, b, c, d, w⟩ := x
 obtain ⟨na, nb, nc, nd, nw⟩ := n
 obtain ⟨ra, rb, rc, rd, rw⟩ := r
 refine spec_fn T_ok mixed_ok 0 Tryz.func68 fn_ok68 (by kernel_rfl) ?_
 first | refine Exists.intro _ (And.intro (s) ?_) | refine Hn_by (Exists.intro _ (And.intro (s) ?_))
 repeat (first | refine gT ?_ | refine gF ?_ | refine brT ?_ | refine brF ?_)
 refine br (fun g => absurd g h) (fun _ => ?_)
 refine br (fun _ => ?_) (fun g => absurd h2 g)
 first | refine Exists.intro _ (And.intro (s1) ?_) | refine Hn_by (Exists.intro _ (And.intro (s1) ?_))
 first | refine Exists.intro _ (And.intro (s2) ?_) | refine Hn_by (Exists.intro _ (And.intro (s2) ?_))
 exact And.intro (Or.inr rfl) rfl
theorem sqrt16_upper (x r : Bx) (s : Spec Tryz.prog [] 71 [x.av] (.bool false)) (h : ¬ x.a > 0) (h2 : ¬ x.b < 0) (h3 : x.c > 0) (s2 : Spec Tryz.prog [] 118 [x.av] r.av) : Spec Tryz.prog [] 68 [x.av] (.tup [r.av, .bool true]) := by
 obtain ⟨a, b, c, d, w⟩ := x
 obtain ⟨ra, rb, rc, rd, rw⟩ := r
 refine spec_fn T_ok mixed_ok 0 Tryz.func68 fn_ok68 (by kernel_rfl) ?_
 first | refine Exists.intro _ (And.intro (s) ?_) | refine Hn_by (Exists.intro _ (And.intro (s) ?_))
 repeat (first | refine gT ?_ | refine gF ?_ | refine brT ?_ | refine brF ?_)
 refine br (fun g => absurd g h) (fun _ => ?_)
 refine br (fun g => absurd g h2) (fun _ => ?_)
 refine br (fun _ => ?_) (fun g => absurd h3 g)
 first | refine Exists.intro _ (And.intro (s2) ?_) | refine Hn_by (Exists.intro _ (And.intro (s2) ?_))
 exact And.intro (Or.inr rfl) rfl
theorem sqrt16_lower (x m : Bx) (s : Spec Tryz.prog [] 71 [x.av] (.bool false)) (h : ¬ x.a > 0) (h2 : ¬ x.b < 0) (h3 : ¬ x.c > 0) (s2 : Spec Tryz.prog [] 118 [bx x.a x.b (w64 (0 - x.d)) (w64 (0 - x.c)) false] m.av) :
  Spec Tryz.prog [] 68 [x.av] (.tup [bx m.a m.b (w64 (0 - m.d)) (w64 (0 - m.c)) false, .bool true]) := by
 obtain ⟨a, b, c, d, w⟩ := x
 obtain ⟨ma, mb, mc, md, mw⟩ := m
 refine spec_fn T_ok mixed_ok 0 Tryz.func68 fn_ok68 (by kernel_rfl) ?_
 first | refine Exists.intro _ (And.intro (s) ?_) | refine Hn_by (Exists.intro _ (And.intro (s) ?_))
 repeat (first | refine gT ?_ | refine gF ?_ | refine brT ?_ | refine brF ?_)
 refine br (fun g => absurd g h) (fun _ => ?_)
 refine br (fun g => absurd g h2) (fun _ => ?_)
 refine br (fun g => absurd g h3) (fun _ => ?_)
 first | refine Exists.intro _ (And.intro (s2) ?_) | refine Hn_by (Exists.intro _ (And.intro (s2) ?_))
 exact And.intro (Or.inr rfl) rfl
theorem sqrt16_yes (x : Bx) (hx : Vb x) (h : meetsF x zeroB = false) : Spec Tryz.prog [] 68 [x.av] (.tup [(rootF x).av, .bool true]) := by
 have s : Spec Tryz.prog [] 71 [x.av] (.bool false) := h ▸ zero16_spec x
 have hz : ¬ (x.a <= 0 ∧ 0 <= x.b ∧ x.c <= 0 ∧ 0 <= x.d) := by
  intro g
  have := (meets_vb hx zero_vb).2 g
  rw [show (⟨0, 0, 0, 0, false⟩ : Bx) = zeroB from rfl, h] at this
  cases this
 obtain ⟨sa, sb, sc, sd⟩ := hx.sm
 unfold rootF
 by_cases h1 : 0 < x.a
 ·rw [if_pos h1]
  exact sqrt16_right x _ s h1 (right16_spec x hx h1)
 ·rw [if_neg h1]
  by_cases h2 : x.b < 0
  ·rw [if_pos h2]
   have hn := ngB_vb hx
   have ha : 0 < (ngB x).a := by show 0 < -x.b; omega
   have s1 := neg16_spec x
   rw [(neg_vb hx).1] at s1
   have t := right_tiny hn ha
   have w := sqrt16_left x _ _ s h1 h2 s1 (right16_spec (ngB x) hn ha)
   rw [show w64 (0 - (rightF (ngB x)).d) = -(rightF (ngB x)).d by rw [w64_eq (by omega)]; omega, show w64 (0 - (rightF (ngB x)).c) = -(rightF (ngB x)).c by rw [w64_eq (by omega)]; omega] at w
   exact w
  ·rw [if_neg h2]
   by_cases h3 : 0 < x.c
   ·rw [if_pos h3]
    exact sqrt16_upper x _ s h1 h2 h3 (upper16_spec x hx h3)
   ·rw [if_neg h3]
    have hc := conj_vb hx
    have hcc : 0 < (conjF x).c := by show 0 < -x.d; omega
    have t := upper_tiny hc hcc
    have u := upper16_spec (conjF x) hc hcc
    have e1 := neg_sm sd
    have e2 := neg_sm sc
    have u' : Spec Tryz.prog [] 118 [bx x.a x.b (w64 (0 - x.d)) (w64 (0 - x.c)) false] (upperF (conjF x)).av := by rw [e1, e2]; exact u
    have w := sqrt16_lower x _ s h1 h2 h3 u'
    rw [neg_tiny t.2.2.1.1 t.2.2.1.2, neg_tiny t.2.2.2.1 t.2.2.2.2] at w
    exact w
end Ab
end
section
open Go Go.Proofs
namespace Ab
set_option maxRecDepth 100000
set_option maxHeartbeats 1000000
theorem exact16_inv {nn dn : Bool} {nl dl : List Int} (v : Spec Tryz.prog [] 58 [mkQ nn nl dn dl] (.bool false)) : Spec Tryz.prog [] 23 [mkQ nn nl dn dl] (.tup [bx 0 0 0 0 false, .int .i64 1]) := by
 refine spec_fn T_ok mixed_ok 0 Tryz.func23 fn_ok23 (by kernel_rfl) ?_
 first | refine Exists.intro _ (And.intro (v) ?_) | refine Hn_by (Exists.intro _ (And.intro (v) ?_))
 repeat (first | refine gT ?_ | refine gF ?_ | refine brT ?_ | refine brF ?_)
 exact And.intro (Or.inr rfl) rfl
theorem exact_inv {nn dn : Bool} {nl dl : List Int} (v : Spec Tryz.prog [] 56 [mkQ nn nl dn dl] (.bool false)) : Spec Tryz.prog [] 22 [mkQ nn nl dn dl] (.tup [bx 0 0 0 0 false, .int .i64 1]) := by
 refine spec_fn T_ok mixed_ok 1 Tryz.func22 fn_ok22 (by kernel_rfl) ?_
 first | refine Exists.intro _ (And.intro (v) ?_) | refine Hn_by (Exists.intro _ (And.intro (v) ?_))
 repeat (first | refine gT ?_ | refine gF ?_ | refine brT ?_ | refine brF ?_)
 exact And.intro (Or.inr rfl) rfl
def ex4 (b1 b2 f1 f2 : Bool) (k1 k2 : Int) : AV := match and4 b1 b2 f1 f2 with | true => .tup [bx k1 (w64 (0 - k2)) 0 0 false, .int .i64 0] | false => .tup [bx 0 0 0 0 false, .int .i64 2]
theorem exact16_walk {nn dn zn zd mn md an bn b1 b2 g1 g2 : Bool} {nl dl zl zm ml mm al bl : List Int} {k1 k2 : Int} (v : Spec Tryz.prog [] 58 [mkQ nn nl dn dl] (.bool true)) (zo : Spec Tryz.prog [] 33 [.int .i64 0, .int .i64 1] (.tup [mkQ zn zl zd zm, .int .i64 0]))
  (sb : Spec Tryz.prog [] 59 [mkQ zn zl zd zm, mkQ nn nl dn dl] (.tup [mkQ mn ml md mm, .int .i64 0]))
  (f1 : Spec Tryz.prog [] 60 [mkQ nn nl dn dl, .int .i64 24] (.tup [mkI an al, .int .i64 0])) (f2 : Spec Tryz.prog [] 60 [mkQ mn ml md mm, .int .i64 24] (.tup [mkI bn bl, .int .i64 0]))
  (s1 : Spec Tryz.prog [] 61 [mkI an al] (.tup [.int .i64 k1, .bool b1])) (s2 : Spec Tryz.prog [] 61 [mkI bn bl] (.tup [.int .i64 k2, .bool b2]))
  (h1 : Spec Tryz.prog [] 62 [.int .i64 k1] (.bool g1)) (h2 : Spec Tryz.prog [] 62 [.int .i64 k2] (.bool g2)) :
  Spec Tryz.prog [] 23 [mkQ nn nl dn dl] (ex4 b1 b2 g1 g2 k1 k2) := by
 cases b1 with
 | false =>
  refine spec_fn T_ok mixed_ok 0 Tryz.func23 fn_ok23 (by kernel_rfl) ?_
  first | refine Exists.intro _ (And.intro (v) ?_) | refine Hn_by (Exists.intro _ (And.intro (v) ?_))
  repeat (first | refine gT ?_ | refine gF ?_ | refine brT ?_ | refine brF ?_)
  first | refine Exists.intro _ (And.intro (zo) ?_) | refine Hn_by (Exists.intro _ (And.intro (zo) ?_))
  first | refine Exists.intro _ (And.intro (sb) ?_) | refine Hn_by (Exists.intro _ (And.intro (sb) ?_))
  first | refine Exists.intro _ (And.intro (f1) ?_) | refine Hn_by (Exists.intro _ (And.intro (f1) ?_))
  first | refine Exists.intro _ (And.intro (f2) ?_) | refine Hn_by (Exists.intro _ (And.intro (f2) ?_))
  first | refine Exists.intro _ (And.intro (s1) ?_) | refine Hn_by (Exists.intro _ (And.intro (s1) ?_))
  first | refine Exists.intro _ (And.intro (s2) ?_) | refine Hn_by (Exists.intro _ (And.intro (s2) ?_))
  repeat (first | refine gT ?_ | refine gF ?_ | refine brT ?_ | refine brF ?_)
  exact And.intro (Or.inr rfl) rfl
 | true =>
 cases b2 with
 | false =>
  refine spec_fn T_ok mixed_ok 0 Tryz.func23 fn_ok23 (by kernel_rfl) ?_
  first | refine Exists.intro _ (And.intro (v) ?_) | refine Hn_by (Exists.intro _ (And.intro (v) ?_))
  repeat (first | refine gT ?_ | refine gF ?_ | refine brT ?_ | refine brF ?_)
  first | refine Exists.intro _ (And.intro (zo) ?_) | refine Hn_by (Exists.intro _ (And.intro (zo) ?_))
  first | refine Exists.intro _ (And.intro (sb) ?_) | refine Hn_by (Exists.intro _ (And.intro (sb) ?_))
  first | refine Exists.intro _ (And.intro (f1) ?_) | refine Hn_by (Exists.intro _ (And.intro (f1) ?_))
  first | refine Exists.intro _ (And.intro (f2) ?_) | refine Hn_by (Exists.intro _ (And.intro (f2) ?_))
  first | refine Exists.intro _ (And.intro (s1) ?_) | refine Hn_by (Exists.intro _ (And.intro (s1) ?_))
  first | refine Exists.intro _ (And.intro (s2) ?_) | refine Hn_by (Exists.intro _ (And.intro (s2) ?_))
  repeat (first | refine gT ?_ | refine gF ?_ | refine brT ?_ | refine brF ?_)
  exact And.intro (Or.inr rfl) rfl
 | true =>
 cases g1 with
 | false =>
  refine spec_fn T_ok mixed_ok 0 Tryz.func23 fn_ok23 (by kernel_rfl) ?_
  first | refine Exists.intro _ (And.intro (v) ?_) | refine Hn_by (Exists.intro _ (And.intro (v) ?_))
  repeat (first | refine gT ?_ | refine gF ?_ | refine brT ?_ | refine brF ?_)
  first | refine Exists.intro _ (And.intro (zo) ?_) | refine Hn_by (Exists.intro _ (And.intro (zo) ?_))
  first | refine Exists.intro _ (And.intro (sb) ?_) | refine Hn_by (Exists.intro _ (And.intro (sb) ?_))
  first | refine Exists.intro _ (And.intro (f1) ?_) | refine Hn_by (Exists.intro _ (And.intro (f1) ?_))
  first | refine Exists.intro _ (And.intro (f2) ?_) | refine Hn_by (Exists.intro _ (And.intro (f2) ?_))
  first | refine Exists.intro _ (And.intro (s1) ?_) | refine Hn_by (Exists.intro _ (And.intro (s1) ?_))
  first | refine Exists.intro _ (And.intro (s2) ?_) | refine Hn_by (Exists.intro _ (And.intro (s2) ?_))
  repeat (first | refine gT ?_ | refine gF ?_ | refine brT ?_ | refine brF ?_)
  first | refine Exists.intro _ (And.intro (h1) ?_) | refine Hn_by (Exists.intro _ (And.intro (h1) ?_))
  repeat (first | refine gT ?_ | refine gF ?_ | refine brT ?_ | refine brF ?_)
  exact And.intro (Or.inr rfl) rfl
 | true =>
 cases g2 with
 | false =>
  refine spec_fn T_ok mixed_ok 0 Tryz.func23 fn_ok23 (by kernel_rfl) ?_
  first | refine Exists.intro _ (And.intro (v) ?_) | refine Hn_by (Exists.intro _ (And.intro (v) ?_))
  repeat (first | refine gT ?_ | refine gF ?_ | refine brT ?_ | refine brF ?_)
  first | refine Exists.intro _ (And.intro (zo) ?_) | refine Hn_by (Exists.intro _ (And.intro (zo) ?_))
  first | refine Exists.intro _ (And.intro (sb) ?_) | refine Hn_by (Exists.intro _ (And.intro (sb) ?_))
  first | refine Exists.intro _ (And.intro (f1) ?_) | refine Hn_by (Exists.intro _ (And.intro (f1) ?_))
  first | refine Exists.intro _ (And.intro (f2) ?_) | refine Hn_by (Exists.intro _ (And.intro (f2) ?_))
  first | refine Exists.intro _ (And.intro (s1) ?_) | refine Hn_by (Exists.intro _ (And.intro (s1) ?_))
  first | refine Exists.intro _ (And.intro (s2) ?_) | refine Hn_by (Exists.intro _ (And.intro (s2) ?_))
  repeat (first | refine gT ?_ | refine gF ?_ | refine brT ?_ | refine brF ?_)
  first | refine Exists.intro _ (And.intro (h1) ?_) | refine Hn_by (Exists.intro _ (And.intro (h1) ?_))
  repeat (first | refine gT ?_ | refine gF ?_ | refine brT ?_ | refine brF ?_)
  first | refine Exists.intro _ (And.intro (h2) ?_) | refine Hn_by (Exists.intro _ (And.intro (h2) ?_))
  repeat (first | refine gT ?_ | refine gF ?_ | refine brT ?_ | refine brF ?_)
  exact And.intro (Or.inr rfl) rfl
 | true =>
  refine spec_fn T_ok mixed_ok 0 Tryz.func23 fn_ok23 (by kernel_rfl) ?_
  first | refine Exists.intro _ (And.intro (v) ?_) | refine Hn_by (Exists.intro _ (And.intro (v) ?_))
  repeat (first | refine gT ?_ | refine gF ?_ | refine brT ?_ | refine brF ?_)
  first | refine Exists.intro _ (And.intro (zo) ?_) | refine Hn_by (Exists.intro _ (And.intro (zo) ?_))
  first | refine Exists.intro _ (And.intro (sb) ?_) | refine Hn_by (Exists.intro _ (And.intro (sb) ?_))
  first | refine Exists.intro _ (And.intro (f1) ?_) | refine Hn_by (Exists.intro _ (And.intro (f1) ?_))
  first | refine Exists.intro _ (And.intro (f2) ?_) | refine Hn_by (Exists.intro _ (And.intro (f2) ?_))
  first | refine Exists.intro _ (And.intro (s1) ?_) | refine Hn_by (Exists.intro _ (And.intro (s1) ?_))
  first | refine Exists.intro _ (And.intro (s2) ?_) | refine Hn_by (Exists.intro _ (And.intro (s2) ?_))
  repeat (first | refine gT ?_ | refine gF ?_ | refine brT ?_ | refine brF ?_)
  first | refine Exists.intro _ (And.intro (h1) ?_) | refine Hn_by (Exists.intro _ (And.intro (h1) ?_))
  repeat (first | refine gT ?_ | refine gF ?_ | refine brT ?_ | refine brF ?_)
  first | refine Exists.intro _ (And.intro (h2) ?_) | refine Hn_by (Exists.intro _ (And.intro (h2) ?_))
  repeat (first | refine gT ?_ | refine gF ?_ | refine brT ?_ | refine brF ?_)
  exact And.intro (Or.inr rfl) rfl
theorem rsmall_cases {z : Int} (hz : Fits z) : ∃ k b, Spec Tryz.prog [] 61 [mkZ z] (.tup [.int .i64 k, .bool b]) ∧ ((-MF <= z ∧ z <= MF) -> k = z ∧ b = true) ∧ (¬ (-MF <= z ∧ z <= MF) -> b = false ∨ fitB k = false) := by
 obtain ⟨s1, s2⟩ := rsmall_int [] hz
 by_cases h : -9223372036854775808 <= z ∧ z < 9223372036854775808
 ·exact ⟨_, _, s1 h, fun _ => ⟨rfl, rfl⟩, fun g => .inr (decide_eq_false g)⟩
 ·exact ⟨_, _, s2 h, fun g => absurd g (by unfold MF; omega), fun _ => .inl rfl⟩
theorem rsub_zero {n d : Int} (hn : Fits n) (hd : Fits d) (d0 : 0 < d) (hg : Int.gcd n d = 1) : Spec Tryz.prog [] 59 [mkR 0 1, mkR n d] (.tup [mkR (-n) d, .int .i64 0]) := by
 have f0 : Fits 0 := fits_i64 (by decide) (by decide)
 have f1 : Fits 1 := fits_i64 (by decide) (by decide)
 have fn : Fits (-n) := by unfold Fits; rw [show az (-n) = az n by unfold az; omega]; exact hn
 have e : 0 * d - n * 1 = -n := by omega
 have s := r2sub_int [] f0 f1 hn hd (by decide) d0 rfl hg (by rw [Int.zero_mul]; exact f0) (by rw [Int.mul_one]; exact hn) (by rw [e]; exact fn) (by rw [Int.one_mul]; exact hd)
 rw [e, Int.one_mul, Int.neg_gcd, hg, show ((1 : Nat) : Int) = 1 from rfl, Int.ediv_one, Int.ediv_one] at s
 exact s
theorem exact16_int {n d : Int} (hn : Fits n) (hd : Fits d) (d0 : 0 < d) (hg : Int.gcd n d = 1) (hs : Fits (n * 16777216)) :
  (ExOk n d -> Spec Tryz.prog [] 23 [mkR n d] (.tup [(exB n d).av, .int .i64 0])) ∧ (¬ ExOk n d -> Spec Tryz.prog [] 23 [mkR n d] (.tup [bx 0 0 0 0 false, .int .i64 2])) := by
 have fn : Fits (-n) := by unfold Fits; rw [show az (-n) = az n by unfold az; omega]; exact hn
 have hs2 : Fits (-n * 16777216) := by unfold Fits; rw [show az (-n * 16777216) = az (n * 16777216) by unfold az; omega]; exact hs
 have hg2 : Int.gcd (-n) d = 1 := by rw [Int.neg_gcd]; exact hg
 have v := r2valid_int [] hn hd d0 hg
 have zo := rof_int [] (n := 0) (d := 1) (by decide) (by decide) (by decide) (by decide)
 rw [show (Int.gcd 0 1 : Int) = 1 from rfl, Int.ediv_one, Int.ediv_one] at zo
 have m := rsub_zero hn hd d0 hg
 have f1 := r2floor_int [] hn hd d0 hg hs
 have f2 := r2floor_int [] fn hd d0 hg2 hs2
 obtain ⟨k1, b1, s1, p1, q1⟩ := rsmall_cases (quo_fits d0 hs)
 obtain ⟨k2, b2, s2, p2, q2⟩ := rsmall_cases (quo_fits d0 hs2)
 have e1 : n * 16777216 / d = fl n d := rfl
 have e2 : -n * 16777216 / d = fl (-n) d := rfl
 rw [e1] at f1 s1 p1 q1
 rw [e2] at f2 s2 p2 q2
 have w := exact16_walk v zo m f1 f2 s1 s2 (fits_spec k1) (fits_spec k2)
 refine ⟨fun h => ?_, fun h => ?_⟩
 ·obtain ⟨rfl, rfl⟩ := p1 h.1
  obtain ⟨rfl, rfl⟩ := p2 h.2
  rw [show fitB (fl n d) = true from decide_eq_true h.1, show fitB (fl (-n) d) = true from decide_eq_true h.2] at w
  have e3 : w64 (0 - fl (-n) d) = -fl (-n) d := by
   have := h.2
   unfold MF at this
   rw [w64_eq (by omega)]; omega
  have w' : Spec Tryz.prog [] 23 [mkR n d] (.tup [bx (fl n d) (w64 (0 - fl (-n) d)) 0 0 false, .int .i64 0]) := w
  rw [e3] at w'
  exact w'
 ·have hz : and4 b1 b2 (fitB k1) (fitB k2) = false := by
   cases hb : and4 b1 b2 (fitB k1) (fitB k2) with
   | false => rfl
   | true =>
    obtain ⟨a1, a2, a3, a4⟩ := and4_iff.1 hb
    exfalso
    by_cases g1 : -MF <= fl n d ∧ fl n d <= MF
    ·by_cases g2 : -MF <= fl (-n) d ∧ fl (-n) d <= MF
     ·exact h ⟨g1, g2⟩
     ·rcases q2 g2 with e | e
      ·rw [e] at a2; cases a2
      ·rw [e] at a4; cases a4
    ·rcases q1 g1 with e | e
     ·rw [e] at a1; cases a1
     ·rw [e] at a3; cases a3
  unfold ex4 at w
  rw [hz] at w
  exact w
theorem exact_both {nn dn : Bool} {nl dl : List Int} (hn : Dg.D nl) (hd : Dg.D dl) (ln : nl.length <= 20) (ld : dl.length <= 20) : ∃ B e, Spec Tryz.prog [] 22 [mkQ nn nl dn dl] (.tup [Bx.av B, .int .i64 e]) ∧ Spec Tryz.prog [] 23 [mkQ nn nl dn dl] (.tup [Bx.av B, .int .i64 e]) := by
 obtain ⟨b, v1, v2, h⟩ := qvalid_any [] (nn := nn) (dn := dn) hn hd (by omega) (by omega)
 cases b with
 | false => exact ⟨⟨0, 0, 0, 0, false⟩, 1, exact_inv v1, exact16_inv v2⟩
 | true =>
  obtain ⟨n, d, eq, fn, fd, d0, hg, en, ed⟩ := h rfl
  rw [eq]
  have hs : Fits (n * 16777216) := fits_lt (by
   have a := Dg.val_lt (Dg.magD (az n))
   rw [val_az, <- en] at a
   have b : Dg.B ^ nl.length <= Dg.B ^ 20 := by rw [pow_B, pow_B]; exact two_pow_le (by omega)
   have c : Dg.B ^ 128 = Dg.B ^ 20 * Dg.B ^ 108 := by rw [<- Int.pow_add]
   have d : (16777216 : Int) <= Dg.B ^ 108 := Int.le_trans (show (16777216 : Int) <= Dg.B ^ 1 by decide) (by rw [pow_B, pow_B]; exact two_pow_le (by decide))
   have e : az (n * 16777216) = az n * 16777216 := by unfold az; omega
   have f := Dg.pow_pos 20
   rw [e, c]
   have g : az n * 16777216 < Dg.B ^ 20 * 16777216 := Int.mul_lt_mul_of_pos_right (by omega) (by decide)
   have k := Int.mul_le_mul_of_nonneg_left d (Int.le_of_lt f)
   omega)
  obtain ⟨x1, x2⟩ := exact_int fn fd d0 hg hs
  obtain ⟨y1, y2⟩ := exact16_int fn fd d0 hg hs
  by_cases hx : ExOk n d
  ·exact ⟨_, _, x1 hx, y1 hx⟩
  ·exact ⟨⟨0, 0, 0, 0, false⟩, _, x2 hx, y2 hx⟩
end Ab
end
section
open Go Go.Proofs
namespace Ab
set_option maxRecDepth 100000
set_option maxHeartbeats 1000000
theorem matches_walk {a1 a2 a3 a4 b1 b2 b3 b4 r1 r2 r3 r4 n1 n2 n3 n4 s1 s2 s3 s4 d1 d2 d3 d4 m1 m2 m3 m4 h1 h2 h3 h4 : Int} {aw bw rw nw sw dw mw hw is va ze me ins : Bool}
  (q1 : Spec Tryz.prog [] 15 [bx a1 a2 a3 a4 aw] (.tup [bx r1 r2 r3 r4 rw, .bool is])) (q2 : Spec Tryz.prog [] 68 [bx a1 a2 a3 a4 aw] (.tup [bx r1 r2 r3 r4 rw, .bool is]))
  (v1 : Spec Tryz.prog [] 19 [bx a1 a2 a3 a4 aw] (.bool va)) (v2 : Spec Tryz.prog [] 69 [bx a1 a2 a3 a4 aw] (.bool va))
  (n1' : Spec Tryz.prog [] 16 [bx a1 a2 a3 a4 aw] (bx n1 n2 n3 n4 nw)) (n2' : Spec Tryz.prog [] 70 [bx a1 a2 a3 a4 aw] (bx n1 n2 n3 n4 nw))
  (z1 : Spec Tryz.prog [] 17 [bx a1 a2 a3 a4 aw] (.bool ze)) (z2 : Spec Tryz.prog [] 71 [bx a1 a2 a3 a4 aw] (.bool ze))
  (s1' : Spec Tryz.prog [] 13 [bx a1 a2 a3 a4 aw, bx b1 b2 b3 b4 bw] (bx s1 s2 s3 s4 sw)) (s2' : Spec Tryz.prog [] 72 [bx a1 a2 a3 a4 aw, bx b1 b2 b3 b4 bw] (bx s1 s2 s3 s4 sw))
  (d1' : Spec Tryz.prog [] 27 [bx a1 a2 a3 a4 aw, bx b1 b2 b3 b4 bw] (bx d1 d2 d3 d4 dw)) (d2' : Spec Tryz.prog [] 73 [bx a1 a2 a3 a4 aw, bx b1 b2 b3 b4 bw] (bx d1 d2 d3 d4 dw))
  (m1' : Spec Tryz.prog [] 14 [bx a1 a2 a3 a4 aw, bx b1 b2 b3 b4 bw] (bx m1 m2 m3 m4 mw)) (m2' : Spec Tryz.prog [] 74 [bx a1 a2 a3 a4 aw, bx b1 b2 b3 b4 bw] (bx m1 m2 m3 m4 mw))
  (h1' : Spec Tryz.prog [] 28 [bx a1 a2 a3 a4 aw, bx b1 b2 b3 b4 bw] (bx h1 h2 h3 h4 hw)) (h2' : Spec Tryz.prog [] 75 [bx a1 a2 a3 a4 aw, bx b1 b2 b3 b4 bw] (bx h1 h2 h3 h4 hw))
  (me1 : Spec Tryz.prog [] 21 [bx a1 a2 a3 a4 aw, bx b1 b2 b3 b4 bw] (.bool me)) (me2 : Spec Tryz.prog [] 76 [bx a1 a2 a3 a4 aw, bx b1 b2 b3 b4 bw] (.bool me))
  (i1 : Spec Tryz.prog [] 20 [bx a1 a2 a3 a4 aw, bx b1 b2 b3 b4 bw] (.bool ins)) (i2 : Spec Tryz.prog [] 77 [bx a1 a2 a3 a4 aw, bx b1 b2 b3 b4 bw] (.bool ins)) :
  Spec Tryz.prog [] 26 [bx a1 a2 a3 a4 aw, bx b1 b2 b3 b4 bw] (.bool true) := by
 refine spec_fn T_ok mixed_ok 0 Tryz.func26 fn_ok26 (by kernel_rfl) ?_
 first | refine Exists.intro _ (And.intro (q1) ?_) | refine Hn_by (Exists.intro _ (And.intro (q1) ?_))
 first | refine Exists.intro _ (And.intro (q2) ?_) | refine Hn_by (Exists.intro _ (And.intro (q2) ?_))
 refine And.intro (by kernel_rfl) ?_
 repeat (first | refine gT ?_ | refine gF ?_ | refine brT ?_ | refine brF ?_ | refine And.intro rfl ?_)
 refine gB (fun g => absurd g (by simp)) (fun _ => ?_)
 repeat (first | refine gT ?_ | refine gF ?_ | refine brT ?_ | refine brF ?_ | refine And.intro rfl ?_)
 refine gB (fun g => absurd g (by simp)) (fun _ => ?_)
 repeat (first | refine gT ?_ | refine gF ?_ | refine brT ?_ | refine brF ?_ | refine And.intro rfl ?_)
 first | refine Exists.intro _ (And.intro (v1) ?_) | refine Hn_by (Exists.intro _ (And.intro (v1) ?_))
 repeat (first | refine gT ?_ | refine gF ?_ | refine brT ?_ | refine brF ?_ | refine And.intro rfl ?_)
 first | refine Exists.intro _ (And.intro (v2) ?_) | refine Hn_by (Exists.intro _ (And.intro (v2) ?_))
 repeat (first | refine gT ?_ | refine gF ?_ | refine brT ?_ | refine brF ?_ | refine And.intro rfl ?_)
 refine gB (fun g => absurd g (by simp)) (fun _ => ?_)
 repeat (first | refine gT ?_ | refine gF ?_ | refine brT ?_ | refine brF ?_ | refine And.intro rfl ?_)
 first | refine Exists.intro _ (And.intro (n1') ?_) | refine Hn_by (Exists.intro _ (And.intro (n1') ?_))
 repeat (first | refine gT ?_ | refine gF ?_ | refine brT ?_ | refine brF ?_ | refine And.intro rfl ?_)
 first | refine Exists.intro _ (And.intro (n2') ?_) | refine Hn_by (Exists.intro _ (And.intro (n2') ?_))
 repeat (first | refine gT ?_ | refine gF ?_ | refine brT ?_ | refine brF ?_ | refine And.intro rfl ?_)
 refine gB (fun g => absurd g (by simp)) (fun _ => ?_)
 repeat (first | refine gT ?_ | refine gF ?_ | refine brT ?_ | refine brF ?_ | refine And.intro rfl ?_)
 first | refine Exists.intro _ (And.intro (z1) ?_) | refine Hn_by (Exists.intro _ (And.intro (z1) ?_))
 repeat (first | refine gT ?_ | refine gF ?_ | refine brT ?_ | refine brF ?_ | refine And.intro rfl ?_)
 first | refine Exists.intro _ (And.intro (z2) ?_) | refine Hn_by (Exists.intro _ (And.intro (z2) ?_))
 repeat (first | refine gT ?_ | refine gF ?_ | refine brT ?_ | refine brF ?_ | refine And.intro rfl ?_)
 refine brB (fun g => absurd g (by simp)) (fun _ => ?_)
 refine And.intro (by kernel_rfl) ?_
 repeat (first | refine gT ?_ | refine gF ?_ | refine brT ?_ | refine brF ?_ | refine And.intro rfl ?_)
 first | refine Exists.intro _ (And.intro (s1') ?_) | refine Hn_by (Exists.intro _ (And.intro (s1') ?_))
 repeat (first | refine gT ?_ | refine gF ?_ | refine brT ?_ | refine brF ?_ | refine And.intro rfl ?_)
 first | refine Exists.intro _ (And.intro (s2') ?_) | refine Hn_by (Exists.intro _ (And.intro (s2') ?_))
 repeat (first | refine gT ?_ | refine gF ?_ | refine brT ?_ | refine brF ?_ | refine And.intro rfl ?_)
 refine gB (fun g => absurd g (by simp)) (fun _ => ?_)
 repeat (first | refine gT ?_ | refine gF ?_ | refine brT ?_ | refine brF ?_ | refine And.intro rfl ?_)
 first | refine Exists.intro _ (And.intro (d1') ?_) | refine Hn_by (Exists.intro _ (And.intro (d1') ?_))
 repeat (first | refine gT ?_ | refine gF ?_ | refine brT ?_ | refine brF ?_ | refine And.intro rfl ?_)
 first | refine Exists.intro _ (And.intro (d2') ?_) | refine Hn_by (Exists.intro _ (And.intro (d2') ?_))
 repeat (first | refine gT ?_ | refine gF ?_ | refine brT ?_ | refine brF ?_ | refine And.intro rfl ?_)
 refine gB (fun g => absurd g (by simp)) (fun _ => ?_)
 repeat (first | refine gT ?_ | refine gF ?_ | refine brT ?_ | refine brF ?_ | refine And.intro rfl ?_)
 first | refine Exists.intro _ (And.intro (m1') ?_) | refine Hn_by (Exists.intro _ (And.intro (m1') ?_))
 repeat (first | refine gT ?_ | refine gF ?_ | refine brT ?_ | refine brF ?_ | refine And.intro rfl ?_)
 first | refine Exists.intro _ (And.intro (m2') ?_) | refine Hn_by (Exists.intro _ (And.intro (m2') ?_))
 repeat (first | refine gT ?_ | refine gF ?_ | refine brT ?_ | refine brF ?_ | refine And.intro rfl ?_)
 refine brB (fun g => absurd g (by simp)) (fun _ => ?_)
 refine And.intro (by kernel_rfl) ?_
 repeat (first | refine gT ?_ | refine gF ?_ | refine brT ?_ | refine brF ?_ | refine And.intro rfl ?_)
 first | refine Exists.intro _ (And.intro (h1') ?_) | refine Hn_by (Exists.intro _ (And.intro (h1') ?_))
 repeat (first | refine gT ?_ | refine gF ?_ | refine brT ?_ | refine brF ?_ | refine And.intro rfl ?_)
 first | refine Exists.intro _ (And.intro (h2') ?_) | refine Hn_by (Exists.intro _ (And.intro (h2') ?_))
 repeat (first | refine gT ?_ | refine gF ?_ | refine brT ?_ | refine brF ?_ | refine And.intro rfl ?_)
 refine brB (fun _ => ?_) (fun g => absurd g (by simp))
 repeat (first | refine gT ?_ | refine gF ?_ | refine brT ?_ | refine brF ?_ | refine And.intro rfl ?_)
 first | refine Exists.intro _ (And.intro (me1) ?_) | refine Hn_by (Exists.intro _ (And.intro (me1) ?_))
 repeat (first | refine gT ?_ | refine gF ?_ | refine brT ?_ | refine brF ?_ | refine And.intro rfl ?_)
 first | refine Exists.intro _ (And.intro (me2) ?_) | refine Hn_by (Exists.intro _ (And.intro (me2) ?_))
 repeat (first | refine gT ?_ | refine gF ?_ | refine brT ?_ | refine brF ?_ | refine And.intro rfl ?_)
 refine brB (fun _ => ?_) (fun g => absurd g (by simp))
 repeat (first | refine gT ?_ | refine gF ?_ | refine brT ?_ | refine brF ?_ | refine And.intro rfl ?_)
 first | refine Exists.intro _ (And.intro (i1) ?_) | refine Hn_by (Exists.intro _ (And.intro (i1) ?_))
 repeat (first | refine gT ?_ | refine gF ?_ | refine brT ?_ | refine brF ?_ | refine And.intro rfl ?_)
 first | refine Exists.intro _ (And.intro (i2) ?_) | refine Hn_by (Exists.intro _ (And.intro (i2) ?_))
 repeat (first | refine gT ?_ | refine gF ?_ | refine brT ?_ | refine brF ?_ | refine And.intro rfl ?_)
 refine And.intro (Or.inr rfl) (congrArg AV.bool ?_)
 simp
end Ab
end
