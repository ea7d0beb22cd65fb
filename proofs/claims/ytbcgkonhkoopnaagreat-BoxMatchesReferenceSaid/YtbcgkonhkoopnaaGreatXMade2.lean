import Derived.Test.YtbcgkonhkoopnaaGreatXMade
open Go Go.Proofs
namespace Ab
set_option maxRecDepth 100000
def mostF (bits : Int) : Int := w64 (1 * 2 ^ (min (w64 (1 + pickF bits 60)).toNat IntKind.i64.bits))
def lowF (re most : Int) : Int := w64 (pickF re (w64 (w64 (2 * most) + 1)) - most)
def madeF (re im wi h bits : Int) : Bx :=
 match pickF bits 7 == 3 with
 | true => ⟨lowF re (mostF bits), mn (w64 (lowF re (mostF bits) + pickF wi (mn (mostF bits) 1073741824))) MF, 0, 0, false⟩
 | false => ⟨lowF re (mostF bits), mn (w64 (lowF re (mostF bits) + pickF wi (mn (mostF bits) 1073741824))) MF, lowF im (mostF bits), mn (w64 (lowF im (mostF bits) + pickF h (mn (mostF bits) 1073741824))) MF, false⟩
theorem made_spec (re im wi h bits : Int) (h1 : 0 <= w64 (1 + pickF bits 60)) (h2 : w64 (w64 (2 * mostF bits) + 1) ≠ 0) (h3 : mn (mostF bits) 1073741824 ≠ 0) :
  Spec Tryz.prog [] 12 [.agg [.int .i64 re, .int .i64 im, .int .i64 wi, .int .i64 h, .int .i64 bits]] (madeF re im wi h bits).av := by
 have s1 := pick_spec bits 60 (by decide)
 have s5 := pick_spec bits 7 (by decide)
 have s2 := pick_spec re _ h2
 have s3 := pick_spec im _ h2
 have s4 := pick_spec wi _ h3
 have s6 := pick_spec h _ h3
 unfold madeF lowF
 generalize pickF re (w64 (w64 (2 * mostF bits) + 1)) = pr at s2 ⊢
 generalize pickF im (w64 (w64 (2 * mostF bits) + 1)) = pim at s3 ⊢
 generalize pickF wi (mn (mostF bits) 1073741824) = pw at s4 ⊢
 generalize pickF h (mn (mostF bits) 1073741824) = ph at s6 ⊢
 generalize pickF bits 7 = p7 at s5 ⊢
 unfold mostF at s2 s3 s4 s6 ⊢
 generalize pickF bits 60 = pb at s1 h1 s2 s3 s4 s6 ⊢
 refine spec_fn T_ok mixed_ok 1 Tryz.func12 fn_ok12 (by kernel_rfl) ?_
 first | refine Exists.intro _ (And.intro (s1) ?_) | refine Hn_by (Exists.intro _ (And.intro (s1) ?_))
 refine And.intro h1 ?_
 first | refine Exists.intro _ (And.intro (s2) ?_) | refine Hn_by (Exists.intro _ (And.intro (s2) ?_))
 first | refine Exists.intro _ (And.intro (s3) ?_) | refine Hn_by (Exists.intro _ (And.intro (s3) ?_))
 first | refine Exists.intro _ (And.intro (s4) ?_) | refine Hn_by (Exists.intro _ (And.intro (s4) ?_))
 first | refine Exists.intro _ (And.intro (s6) ?_) | refine Hn_by (Exists.intro _ (And.intro (s6) ?_))
 first | refine Exists.intro _ (And.intro (s5) ?_) | refine Hn_by (Exists.intro _ (And.intro (s5) ?_))
 refine brB (fun e => ?_) (fun e => ?_)
 ·refine And.intro (Or.inr rfl) ?_
  rw [e]
  rfl
 ·refine And.intro (Or.inr rfl) ?_
  rw [e]
  rfl
end Ab
