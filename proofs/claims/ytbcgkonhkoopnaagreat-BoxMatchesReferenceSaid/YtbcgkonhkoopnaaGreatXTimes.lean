import Derived.Test.YtbcgkonhkoopnaaGreatXMulW
open Go Go.Proofs
namespace Ab
set_option maxRecDepth 100000
set_option maxHeartbeats 1000000
abbrev Sp.av (s : Sp) : AV := .agg [.int .i64 s.lo, .int .i64 s.hi]
abbrev cel (p q r s : Int) : List AV := [.int .i64 p, .int .i64 q, .int .i64 r, .int .i64 s]
def Ok64 (s : Sp) : Prop := I64 s.lo ∧ I64 s.hi
theorem times_spec (a b : Sp) (ha : Ok64 a) (hb : Ok64 b) : Spec Tryz.prog [] 46 [a.av, b.av] (timesF a b).av := by
 obtain ⟨a1, a2⟩ := ha
 obtain ⟨b1, b2⟩ := hb
 have s0 := scaled_spec a.lo b.lo false a1 b1
 have s1 := scaled_spec a.lo b.hi false a1 b2
 have s2 := scaled_spec a.hi b.lo false a2 b1
 have s3 := scaled_spec a.hi b.hi false a2 b2
 have u0 := scaled_spec a.lo b.lo true a1 b1
 have u1 := scaled_spec a.lo b.hi true a1 b2
 have u2 := scaled_spec a.hi b.lo true a2 b1
 have u3 := scaled_spec a.hi b.hi true a2 b2
 unfold timesF
 generalize scaledF a.lo b.lo false = l0 at s0 ⊢
 generalize scaledF a.lo b.hi false = l1 at s1 ⊢
 generalize scaledF a.hi b.lo false = l2 at s2 ⊢
 generalize scaledF a.hi b.hi false = l3 at s3 ⊢
 generalize scaledF a.lo b.lo true = h0 at u0 ⊢
 generalize scaledF a.lo b.hi true = h1 at u1 ⊢
 generalize scaledF a.hi b.lo true = h2 at u2 ⊢
 generalize scaledF a.hi b.hi true = h3 at u3 ⊢
 obtain ⟨x0, x1⟩ := a
 obtain ⟨y0, y1⟩ := b
 refine spec_fn T_ok mixed_ok 1 Tryz.func46 fn_ok46 (by kernel_rfl) ?_
 refine aw_loop (fun i : Nat => stOf [(2, .bp 0 0), (3, .bp 1 0), (4, .bp 2 0), (5, .bp 3 0), (6, .bp 4 0), (15, .agg [.int .i64 x0, .int .i64 x1]), (16, .int .i64 (i : Int))]
  [(0, .box [.int .i64 x0, .int .i64 x1]), (1, .box [.int .i64 y0, .int .i64 y1]), (2, .box [.int .i64 0, .int .i64 0]),
    (3, .box (match i with | 0 => cel 0 0 0 0 | 1 => cel l0 l1 0 0 | _ => cel l0 l1 l2 l3)), (4, .box (match i with | 0 => cel 0 0 0 0 | 1 => cel h0 h1 0 0 | _ => cel h0 h1 h2 h3))] 5) (fun i => i <= 2) (fun i => 2 - i) 0 (by decide)
  (le_by ⟨rfl, rfl, rfl, rfl, rfl, rfl, rfl, trivial⟩ ⟨rfl, rfl, rfl, rfl, rfl, trivial⟩ (Nat.le_refl _)) ?_
 rintro i hi P hP
 match i, hi, hP with
 | 0, _, hP =>
  refine brT ?_
  refine And.intro (by decide) (And.intro (by decide) (Exists.intro _ (And.intro rfl ?_)))
  refine aw_loop (fun k : Nat => stOf [(2, .bp 0 0), (3, .bp 1 0), (4, .bp 2 0), (5, .bp 3 0), (6, .bp 4 0), (7, .int .i64 0), (8, .int .i64 x0), (15, .agg [.int .i64 x0, .int .i64 x1]), (16, .int .i64 0), (24, .agg [.int .i64 y0, .int .i64 y1]), (25, .int .i64 (k : Int))]
   [(0, .box [.int .i64 x0, .int .i64 x1]), (1, .box [.int .i64 y0, .int .i64 y1]), (2, .box [.int .i64 0, .int .i64 0]),
     (3, .box (match k with | 0 => cel 0 0 0 0 | 1 => cel l0 0 0 0 | _ => cel l0 l1 0 0)), (4, .box (match k with | 0 => cel 0 0 0 0 | 1 => cel h0 0 0 0 | _ => cel h0 h1 0 0))] 5) (fun i => i <= 2) (fun i => 2 - i) 0 (by decide)
   (le_by ⟨rfl, rfl, rfl, rfl, rfl, rfl, rfl, rfl, rfl, rfl, rfl, trivial⟩ ⟨rfl, rfl, rfl, rfl, rfl, trivial⟩ (Nat.le_refl _)) ?_
  rintro k hk Q hQ
  match k, hk, hQ with
  | 0, _, hQ =>
   refine brT ?_
   refine And.intro (by decide) (And.intro (by decide) (Exists.intro _ (And.intro rfl ?_)))
   first | refine Exists.intro _ (And.intro (s0) ?_) | refine Hn_by (Exists.intro _ (And.intro (s0) ?_))
   refine And.intro (by decide) (And.intro (by decide) ?_)
   first | refine Exists.intro _ (And.intro (u0) ?_) | refine Hn_by (Exists.intro _ (And.intro (u0) ?_))
   refine And.intro (by decide) (And.intro (by decide) ?_)
   exact hQ 1 _ (le_by ⟨rfl, rfl, rfl, rfl, rfl, rfl, rfl, rfl, rfl, rfl, rfl, trivial⟩ ⟨rfl, rfl, rfl, rfl, rfl, trivial⟩ (Nat.le_refl _)) (by decide) (by decide)
  | 1, _, hQ =>
   refine brT ?_
   refine And.intro (by decide) (And.intro (by decide) (Exists.intro _ (And.intro rfl ?_)))
   first | refine Exists.intro _ (And.intro (s1) ?_) | refine Hn_by (Exists.intro _ (And.intro (s1) ?_))
   refine And.intro (by decide) (And.intro (by decide) ?_)
   first | refine Exists.intro _ (And.intro (u1) ?_) | refine Hn_by (Exists.intro _ (And.intro (u1) ?_))
   refine And.intro (by decide) (And.intro (by decide) ?_)
   exact hQ 2 _ (le_by ⟨rfl, rfl, rfl, rfl, rfl, rfl, rfl, rfl, rfl, rfl, rfl, trivial⟩ ⟨rfl, rfl, rfl, rfl, rfl, trivial⟩ (Nat.le_refl _)) (by decide) (by decide)
  | 2, _, _ =>
   refine brF ?_
   exact hP (0 + 1) _ (le_by ⟨rfl, rfl, rfl, rfl, rfl, rfl, rfl, trivial⟩ ⟨rfl, rfl, rfl, rfl, rfl, trivial⟩ (Nat.le_refl _)) (by decide) (by decide)
 | 1, _, hP =>
  refine brT ?_
  refine And.intro (by decide) (And.intro (by decide) (Exists.intro _ (And.intro rfl ?_)))
  refine aw_loop (fun k : Nat => stOf [(2, .bp 0 0), (3, .bp 1 0), (4, .bp 2 0), (5, .bp 3 0), (6, .bp 4 0), (7, .int .i64 1), (8, .int .i64 x1), (15, .agg [.int .i64 x0, .int .i64 x1]), (16, .int .i64 1), (24, .agg [.int .i64 y0, .int .i64 y1]), (25, .int .i64 (k : Int))]
   [(0, .box [.int .i64 x0, .int .i64 x1]), (1, .box [.int .i64 y0, .int .i64 y1]), (2, .box [.int .i64 0, .int .i64 0]),
     (3, .box (match k with | 0 => cel l0 l1 0 0 | 1 => cel l0 l1 l2 0 | _ => cel l0 l1 l2 l3)), (4, .box (match k with | 0 => cel h0 h1 0 0 | 1 => cel h0 h1 h2 0 | _ => cel h0 h1 h2 h3))] 5) (fun i => i <= 2) (fun i => 2 - i) 0 (by decide)
   (le_by ⟨rfl, rfl, rfl, rfl, rfl, rfl, rfl, rfl, rfl, rfl, rfl, trivial⟩ ⟨rfl, rfl, rfl, rfl, rfl, trivial⟩ (Nat.le_refl _)) ?_
  rintro k hk Q hQ
  match k, hk, hQ with
  | 0, _, hQ =>
   refine brT ?_
   refine And.intro (by decide) (And.intro (by decide) (Exists.intro _ (And.intro rfl ?_)))
   first | refine Exists.intro _ (And.intro (s2) ?_) | refine Hn_by (Exists.intro _ (And.intro (s2) ?_))
   refine And.intro (by decide) (And.intro (by decide) ?_)
   first | refine Exists.intro _ (And.intro (u2) ?_) | refine Hn_by (Exists.intro _ (And.intro (u2) ?_))
   refine And.intro (by decide) (And.intro (by decide) ?_)
   exact hQ 1 _ (le_by ⟨rfl, rfl, rfl, rfl, rfl, rfl, rfl, rfl, rfl, rfl, rfl, trivial⟩ ⟨rfl, rfl, rfl, rfl, rfl, trivial⟩ (Nat.le_refl _)) (by decide) (by decide)
  | 1, _, hQ =>
   refine brT ?_
   refine And.intro (by decide) (And.intro (by decide) (Exists.intro _ (And.intro rfl ?_)))
   first | refine Exists.intro _ (And.intro (s3) ?_) | refine Hn_by (Exists.intro _ (And.intro (s3) ?_))
   refine And.intro (by decide) (And.intro (by decide) ?_)
   first | refine Exists.intro _ (And.intro (u3) ?_) | refine Hn_by (Exists.intro _ (And.intro (u3) ?_))
   refine And.intro (by decide) (And.intro (by decide) ?_)
   exact hQ 2 _ (le_by ⟨rfl, rfl, rfl, rfl, rfl, rfl, rfl, rfl, rfl, rfl, rfl, trivial⟩ ⟨rfl, rfl, rfl, rfl, rfl, trivial⟩ (Nat.le_refl _)) (by decide) (by decide)
  | 2, _, _ =>
   refine brF ?_
   exact hP (1 + 1) _ (le_by ⟨rfl, rfl, rfl, rfl, rfl, rfl, rfl, trivial⟩ ⟨rfl, rfl, rfl, rfl, rfl, trivial⟩ (Nat.le_refl _)) (by decide) (by decide)
 | 2, _, _ =>
  refine brF ?_
  refine And.intro (by kernel_rfl) ?_
  refine And.intro ⟨rfl, Nat.le_refl _⟩ (Exists.intro _ (And.intro (min_spec [] l0 [l1, l2, l3] (by simp)) ?_))
  refine And.intro rfl ?_
  refine Hn_by (And.intro ⟨rfl, Nat.le_refl _⟩ (Exists.intro _ (And.intro (max_spec [] h0 [h1, h2, h3] (by simp)) ?_)))
  exact And.intro (Or.inr rfl) rfl
end Ab
