import Derived.Test.YtinhfpljdjlomaaGreatXLawQ
import Derived.Test.YtinhfpljdjlomaaGreatXAlong2
open Go Go.Proofs
namespace Ab
set_option maxRecDepth 100000
set_option maxHeartbeats 1000000
theorem al_form {r s q : AV} (h : AlAns r s q) : ∃ L e,q = .tup [.sl (brow L),.int .i64 e] ∧ L.length <= 20:=by
 cases h with
 | one h0 => exact ⟨[],_,rfl,Nat.zero_le _⟩
 | two h0 => exact ⟨[],_,rfl,Nat.zero_le _⟩
 | all h1 h2 _ _ => exact ⟨_,0,rfl,by rw [List.length_zipWith]; omega⟩
theorem boxes_law {l m : Ps} {a b c d : Int} (hl : QDs l) (hm : QDs m) (lm : (m.length : Int) <= 9223372036854775807) : Spec Tryz.prog [] 9 [pcv l m a b c d] (.bool true):=by
 obtain ⟨r,q1,x1,y1⟩:=at_any hl hm lm (re:=a) (im:=b)
 obtain ⟨s,q2,x2,y2⟩:=at_any hl hm lm (re:=c) (im:=d)
 obtain ⟨q,h,xa,ya⟩:=along_any hl hm lm q1 q2 x1 y1 x2 y2
 obtain ⟨L,e,rfl,hL⟩:=at_form q1
 obtain ⟨H,f,rfl,hH⟩:=al_form h
 have b1:=boxes_refl L (by omega)
 have b2:=boxes_refl H (by omega)
 refine spec_fn T_ok mixed_ok 0 Tryz.func9 fn_ok9 (by kernel_rfl) ?_
 first | refine Exists.intro _ (And.intro (x1) ?_) | refine Hn_by (Exists.intro _ (And.intro (x1) ?_))
 first | refine Exists.intro _ (And.intro (y1) ?_) | refine Hn_by (Exists.intro _ (And.intro (y1) ?_))
 first | refine Exists.intro _ (And.intro (xa) ?_) | refine Hn_by (Exists.intro _ (And.intro (xa) ?_))
 first | refine Exists.intro _ (And.intro (ya) ?_) | refine Hn_by (Exists.intro _ (And.intro (ya) ?_))
 first | refine Exists.intro _ (And.intro (works_spec) ?_) | refine Hn_by (Exists.intro _ (And.intro (works_spec) ?_))
 repeat (first | refine gT ?_ | refine gF ?_ | refine brT ?_ | refine brF ?_)
 refine brE (fun _ => ?_) (fun g => absurd rfl g)
 repeat (first | refine gT ?_ | refine gF ?_ | refine brT ?_ | refine brF ?_)
 first | refine Exists.intro _ (And.intro (b1) ?_) | refine Hn_by (Exists.intro _ (And.intro (b1) ?_))
 repeat (first | refine gT ?_ | refine gF ?_ | refine brT ?_ | refine brF ?_)
 refine brE (fun _ => ?_) (fun g => absurd rfl g)
 repeat (first | refine gT ?_ | refine gF ?_ | refine brT ?_ | refine brF ?_)
 first | refine Exists.intro _ (And.intro (b2) ?_) | refine Hn_by (Exists.intro _ (And.intro (b2) ?_))
 exact And.intro (Or.inr rfl) rfl
end Ab
