import Derived.Test.YtbcgkonhkoopnaaGreatXTimes
open Go Go.Proofs
namespace Ab
set_option maxRecDepth 100000
set_option maxHeartbeats 1000000
theorem or1 {a b c d : Bool} (h : a = true) : or a (or b (or c d)) = true := by rw [h]; rfl
theorem or2 {a b c d : Bool} (h : b = true) : or a (or b (or c d)) = true := by rw [h]; cases a <;> rfl
theorem or3 {a b c d : Bool} (h : c = true) : or a (or b (or c d)) = true := by rw [h]; cases a <;> cases b <;> rfl
theorem or4 {a b c d : Bool} (h : d = true) : or a (or b (or c d)) = true := by rw [h]; cases a <;> cases b <;> cases c <;> rfl
theorem mulclo_walk (x y z : Bx) (p q r s : Sp) (s1 : Spec Tryz.prog [] 46 [Sp.av ⟨x.a, x.b⟩, Sp.av ⟨y.a, y.b⟩] p.av) (s2 : Spec Tryz.prog [] 46 [Sp.av ⟨x.c, x.d⟩, Sp.av ⟨y.c, y.d⟩] q.av)
  (s3 : Spec Tryz.prog [] 46 [Sp.av ⟨x.a, x.b⟩, Sp.av ⟨y.c, y.d⟩] r.av) (s4 : Spec Tryz.prog [] 46 [Sp.av ⟨x.c, x.d⟩, Sp.av ⟨y.a, y.b⟩] s.av)
  (hw : or (outF p) (or (outF q) (or (outF r) (outF s))) = true -> z = wideB)
  (hn : or (outF p) (or (outF q) (or (outF r) (outF s))) = false -> z = ⟨w64 (p.lo - q.hi), w64 (p.hi - q.lo), w64 (r.lo + s.lo), w64 (r.hi + s.hi), false⟩) :
  Spec Tryz.prog [] 45 [x.av, y.av] z.av := by
 obtain ⟨xa, xb, xc, xd, xw⟩ := x
 obtain ⟨ya, yb, yc, yd, yw⟩ := y
 obtain ⟨pl, ph⟩ := p
 obtain ⟨ql, qh⟩ := q
 obtain ⟨rl, rh⟩ := r
 obtain ⟨sl, sh⟩ := s
 refine spec_fn T_ok mixed_ok 1 Tryz.func45 fn_ok45 (by kernel_rfl) ?_
 refine And.intro (by kernel_rfl) ?_
 repeat (first | refine gT ?_ | refine gF ?_ | refine brT ?_ | refine brF ?_ | refine And.intro rfl ?_)
 first | refine Exists.intro _ (And.intro (s1) ?_) | refine Hn_by (Exists.intro _ (And.intro (s1) ?_))
 repeat (first | refine gT ?_ | refine gF ?_ | refine brT ?_ | refine brF ?_ | refine And.intro rfl ?_)
 first | refine Exists.intro _ (And.intro (s2) ?_) | refine Hn_by (Exists.intro _ (And.intro (s2) ?_))
 repeat (first | refine gT ?_ | refine gF ?_ | refine brT ?_ | refine brF ?_ | refine And.intro rfl ?_)
 first | refine Exists.intro _ (And.intro (s3) ?_) | refine Hn_by (Exists.intro _ (And.intro (s3) ?_))
 repeat (first | refine gT ?_ | refine gF ?_ | refine brT ?_ | refine brF ?_ | refine And.intro rfl ?_)
 first | refine Exists.intro _ (And.intro (s4) ?_) | refine Hn_by (Exists.intro _ (And.intro (s4) ?_))
 repeat (first | refine gT ?_ | refine gF ?_ | refine brT ?_ | refine brF ?_ | refine And.intro rfl ?_)
 refine aw_loop (fun i : Nat => stOf [(4, .bp 2 0), (9, .bp 7 0), (45, .agg [.int .i64 pl, .int .i64 ph, .int .i64 ql, .int .i64 qh, .int .i64 rl, .int .i64 rh, .int .i64 sl, .int .i64 sh]), (46, .int .i64 (i : Int))]
  [(2, .box [.int .i64 0, .int .i64 0, .int .i64 0, .int .i64 0, .bool false]), (7, .box [.int .i64 pl, .int .i64 ph, .int .i64 ql, .int .i64 qh, .int .i64 rl, .int .i64 rh, .int .i64 sl, .int .i64 sh])] (8 + i))
  (fun i => i <= 4 ∧ (0 < i -> outF ⟨pl, ph⟩ = false) ∧ (1 < i -> outF ⟨ql, qh⟩ = false) ∧ (2 < i -> outF ⟨rl, rh⟩ = false) ∧ (3 < i -> outF ⟨sl, sh⟩ = false)) (fun i => 4 - i) 0 ⟨by decide, fun h => absurd h (by decide), fun h => absurd h (by decide), fun h => absurd h (by decide), fun h => absurd h (by decide)⟩
  (le_by ⟨rfl, rfl, rfl, rfl, trivial⟩ ⟨rfl, rfl, trivial⟩ (Nat.le_refl _)) ?_
 rintro i ⟨hi, g1, g2, g3, g4⟩ P hP
 match i, hi, hP, g1, g2, g3, g4 with
 | 0, _, hP, g1, g2, g3, g4 =>
  refine brT ?_
  refine And.intro (by decide) (And.intro (by decide) ?_)
  refine gr (fun h1 => ?_) (fun h1 => ?_)
  ·repeat (first | refine gT ?_ | refine gF ?_ | refine brT ?_ | refine brF ?_)
   first | refine Exists.intro _ (And.intro (wide_spec) ?_) | refine Hn_by (Exists.intro _ (And.intro (wide_spec) ?_))
   refine And.intro (Or.inr rfl) ?_
   rw [hw (by
    have e : outF ⟨pl, ph⟩ = true := by unfold outF; rw [decide_eq_true (p := (pl < -MF)) h1]; rfl
    exact or1 e)]
   rfl
  ·repeat (first | refine gT ?_ | refine gF ?_ | refine brT ?_ | refine brF ?_)
   refine br (fun h2 => ?_) (fun h2 => ?_)
   ·first | refine Exists.intro _ (And.intro (wide_spec) ?_) | refine Hn_by (Exists.intro _ (And.intro (wide_spec) ?_))
    refine And.intro (Or.inr rfl) ?_
    rw [hw (by
     have e : outF ⟨pl, ph⟩ = true := by unfold outF; rw [decide_eq_true (p := (ph > MF)) h2, Bool.or_true]
     exact or1 e)]
    rfl
   ·have e : outF ⟨pl, ph⟩ = false := by
     unfold outF; rw [decide_eq_false (p := (ph > MF)) h2, decide_eq_false (p := (pl < -MF)) h1]; rfl
    exact hP 1 _ (le_by ⟨rfl, rfl, rfl, rfl, trivial⟩ ⟨rfl, rfl, trivial⟩ (Nat.le_refl _)) ⟨by decide, fun _ => e, fun h => absurd h (by decide), fun h => absurd h (by decide), fun h => absurd h (by decide)⟩ (by decide)
 | 1, _, hP, g1, g2, g3, g4 =>
  refine brT ?_
  refine And.intro (by decide) (And.intro (by decide) ?_)
  refine gr (fun h1 => ?_) (fun h1 => ?_)
  ·repeat (first | refine gT ?_ | refine gF ?_ | refine brT ?_ | refine brF ?_)
   first | refine Exists.intro _ (And.intro (wide_spec) ?_) | refine Hn_by (Exists.intro _ (And.intro (wide_spec) ?_))
   refine And.intro (Or.inr rfl) ?_
   rw [hw (by
    have e : outF ⟨ql, qh⟩ = true := by unfold outF; rw [decide_eq_true (p := (ql < -MF)) h1]; rfl
    exact or2 e)]
   rfl
  ·repeat (first | refine gT ?_ | refine gF ?_ | refine brT ?_ | refine brF ?_)
   refine br (fun h2 => ?_) (fun h2 => ?_)
   ·first | refine Exists.intro _ (And.intro (wide_spec) ?_) | refine Hn_by (Exists.intro _ (And.intro (wide_spec) ?_))
    refine And.intro (Or.inr rfl) ?_
    rw [hw (by
     have e : outF ⟨ql, qh⟩ = true := by unfold outF; rw [decide_eq_true (p := (qh > MF)) h2, Bool.or_true]
     exact or2 e)]
    rfl
   ·have e : outF ⟨ql, qh⟩ = false := by
     unfold outF; rw [decide_eq_false (p := (qh > MF)) h2, decide_eq_false (p := (ql < -MF)) h1]; rfl
    exact hP 2 _ (le_by ⟨rfl, rfl, rfl, rfl, trivial⟩ ⟨rfl, rfl, trivial⟩ (Nat.le_refl _)) ⟨by decide, fun _ => g1 (by decide), fun _ => e, fun h => absurd h (by decide), fun h => absurd h (by decide)⟩ (by decide)
 | 2, _, hP, g1, g2, g3, g4 =>
  refine brT ?_
  refine And.intro (by decide) (And.intro (by decide) ?_)
  refine gr (fun h1 => ?_) (fun h1 => ?_)
  ·repeat (first | refine gT ?_ | refine gF ?_ | refine brT ?_ | refine brF ?_)
   first | refine Exists.intro _ (And.intro (wide_spec) ?_) | refine Hn_by (Exists.intro _ (And.intro (wide_spec) ?_))
   refine And.intro (Or.inr rfl) ?_
   rw [hw (by
    have e : outF ⟨rl, rh⟩ = true := by unfold outF; rw [decide_eq_true (p := (rl < -MF)) h1]; rfl
    exact or3 e)]
   rfl
  ·repeat (first | refine gT ?_ | refine gF ?_ | refine brT ?_ | refine brF ?_)
   refine br (fun h2 => ?_) (fun h2 => ?_)
   ·first | refine Exists.intro _ (And.intro (wide_spec) ?_) | refine Hn_by (Exists.intro _ (And.intro (wide_spec) ?_))
    refine And.intro (Or.inr rfl) ?_
    rw [hw (by
     have e : outF ⟨rl, rh⟩ = true := by unfold outF; rw [decide_eq_true (p := (rh > MF)) h2, Bool.or_true]
     exact or3 e)]
    rfl
   ·have e : outF ⟨rl, rh⟩ = false := by
     unfold outF; rw [decide_eq_false (p := (rh > MF)) h2, decide_eq_false (p := (rl < -MF)) h1]; rfl
    exact hP 3 _ (le_by ⟨rfl, rfl, rfl, rfl, trivial⟩ ⟨rfl, rfl, trivial⟩ (Nat.le_refl _)) ⟨by decide, fun _ => g1 (by decide), fun _ => g2 (by decide), fun _ => e, fun h => absurd h (by decide)⟩ (by decide)
 | 3, _, hP, g1, g2, g3, g4 =>
  refine brT ?_
  refine And.intro (by decide) (And.intro (by decide) ?_)
  refine gr (fun h1 => ?_) (fun h1 => ?_)
  ·repeat (first | refine gT ?_ | refine gF ?_ | refine brT ?_ | refine brF ?_)
   first | refine Exists.intro _ (And.intro (wide_spec) ?_) | refine Hn_by (Exists.intro _ (And.intro (wide_spec) ?_))
   refine And.intro (Or.inr rfl) ?_
   rw [hw (by
    have e : outF ⟨sl, sh⟩ = true := by unfold outF; rw [decide_eq_true (p := (sl < -MF)) h1]; rfl
    exact or4 e)]
   rfl
  ·repeat (first | refine gT ?_ | refine gF ?_ | refine brT ?_ | refine brF ?_)
   refine br (fun h2 => ?_) (fun h2 => ?_)
   ·first | refine Exists.intro _ (And.intro (wide_spec) ?_) | refine Hn_by (Exists.intro _ (And.intro (wide_spec) ?_))
    refine And.intro (Or.inr rfl) ?_
    rw [hw (by
     have e : outF ⟨sl, sh⟩ = true := by unfold outF; rw [decide_eq_true (p := (sh > MF)) h2, Bool.or_true]
     exact or4 e)]
    rfl
   ·have e : outF ⟨sl, sh⟩ = false := by
     unfold outF; rw [decide_eq_false (p := (sh > MF)) h2, decide_eq_false (p := (sl < -MF)) h1]; rfl
    exact hP 4 _ (le_by ⟨rfl, rfl, rfl, rfl, trivial⟩ ⟨rfl, rfl, trivial⟩ (Nat.le_refl _)) ⟨by decide, fun _ => g1 (by decide), fun _ => g2 (by decide), fun _ => g3 (by decide), fun _ => e⟩ (by decide)
 | 4, _, _, g1, g2, g3, g4 =>
  refine brF ?_
  rw [hn (by rw [g1 (by decide), g2 (by decide), g3 (by decide), g4 (by decide)]; rfl)]
  repeat refine And.intro (by decide) (And.intro (by decide) ?_)
  exact And.intro (Or.inr rfl) rfl
def Bok (x : Bx) : Prop := (I64 x.a ∧ I64 x.b) ∧ (I64 x.c ∧ I64 x.d)
theorem mulclo_spec (x y : Bx) (hx : Bok x) (hy : Bok y) : Spec Tryz.prog [] 45 [x.av, y.av] (mulF x y).av := by
 refine mulclo_walk x y (mulF x y) _ _ _ _ (times_spec ⟨x.a, x.b⟩ ⟨y.a, y.b⟩ hx.1 hy.1) (times_spec ⟨x.c, x.d⟩ ⟨y.c, y.d⟩ hx.2 hy.2) (times_spec ⟨x.a, x.b⟩ ⟨y.c, y.d⟩ hx.1 hy.2) (times_spec ⟨x.c, x.d⟩ ⟨y.a, y.b⟩ hx.2 hy.1) ?_ ?_
 ·intro h; unfold mulF; rw [h]
 ·intro h; unfold mulF; rw [h]
theorem checked_bok (x : Bx) : Bok (checkedF x) := by
 rcases checked_cases x with e | ⟨e, hv⟩
 ·rw [e]; unfold Bok I64 wideB; simp only; omega
 ·rw [e]
  obtain ⟨_, h1, h2, h3, h4, h5, h6⟩ := hv
  unfold MF at h3 h4 h5 h6
  unfold Bok I64
  omega
theorem mul_spec (x y : Bx) : Spec Tryz.prog [] 14 [x.av, y.av] (applyF mulF x y).av := by
 have sx := checked_spec x
 have sy := checked_spec y
 have bx' := checked_bok x
 have by' := checked_bok y
 unfold applyF
 generalize checkedF x = cx at sx bx' ⊢
 generalize checkedF y = cy at sy by' ⊢
 have sm := mulclo_spec cx cy bx' by'
 have sz := checked_spec (mulF cx cy)
 generalize mulF cx cy = m at sm sz ⊢
 generalize checkedF m = z at sz ⊢
 clear bx' by'
 obtain ⟨ca, cb, cc, cd, cw⟩ := cx
 obtain ⟨da, db, dc, dd, dw⟩ := cy
 obtain ⟨ma, mb, mc, md, mw⟩ := m
 obtain ⟨za, zb, zc, zd, zw⟩ := z
 cases cw with
 | true =>
  refine spec_fn T_ok mixed_ok 3 Tryz.func14 fn_ok14 (by kernel_rfl) ?_
  refine Hn_in Tryz.f43 Tryz.func43 fn_ok43 (by kernel_rfl) ?_
  refine And.intro (by kernel_rfl) ?_
  first | refine Exists.intro _ (And.intro (sx) ?_) | refine Hn_by (Exists.intro _ (And.intro (sx) ?_))
  refine And.intro rfl ?_
  first | refine Exists.intro _ (And.intro (sy) ?_) | refine Hn_by (Exists.intro _ (And.intro (sy) ?_))
  repeat (first | refine gT ?_ | refine gF ?_ | refine brT ?_ | refine brF ?_)
  first | refine Exists.intro _ (And.intro (wide_spec) ?_) | refine Hn_by (Exists.intro _ (And.intro (wide_spec) ?_))
  refine And.intro (Or.inr rfl) ?_
  refine And.intro (Or.inr rfl) ?_
  rfl
 | false =>
  cases dw with
  | true =>
   refine spec_fn T_ok mixed_ok 3 Tryz.func14 fn_ok14 (by kernel_rfl) ?_
   refine Hn_in Tryz.f43 Tryz.func43 fn_ok43 (by kernel_rfl) ?_
   refine And.intro (by kernel_rfl) ?_
   first | refine Exists.intro _ (And.intro (sx) ?_) | refine Hn_by (Exists.intro _ (And.intro (sx) ?_))
   refine And.intro rfl ?_
   first | refine Exists.intro _ (And.intro (sy) ?_) | refine Hn_by (Exists.intro _ (And.intro (sy) ?_))
   repeat (first | refine gT ?_ | refine gF ?_ | refine brT ?_ | refine brF ?_)
   first | refine Exists.intro _ (And.intro (wide_spec) ?_) | refine Hn_by (Exists.intro _ (And.intro (wide_spec) ?_))
   refine And.intro (Or.inr rfl) ?_
   refine And.intro (Or.inr rfl) ?_
   rfl
  | false =>
   refine spec_fn T_ok mixed_ok 3 Tryz.func14 fn_ok14 (by kernel_rfl) ?_
   refine Hn_in Tryz.f43 Tryz.func43 fn_ok43 (by kernel_rfl) ?_
   refine And.intro (by kernel_rfl) ?_
   first | refine Exists.intro _ (And.intro (sx) ?_) | refine Hn_by (Exists.intro _ (And.intro (sx) ?_))
   refine And.intro rfl ?_
   first | refine Exists.intro _ (And.intro (sy) ?_) | refine Hn_by (Exists.intro _ (And.intro (sy) ?_))
   repeat (first | refine gT ?_ | refine gF ?_ | refine brT ?_ | refine brF ?_)
   first | refine Exists.intro _ (And.intro (sm) ?_) | refine Hn_by (Exists.intro _ (And.intro (sm) ?_))
   first | refine Exists.intro _ (And.intro (sz) ?_) | refine Hn_by (Exists.intro _ (And.intro (sz) ?_))
   refine And.intro (Or.inr rfl) ?_
   refine And.intro (Or.inr rfl) ?_
   rfl
end Ab
