import Derived.Test.YtinhfpljdjlomaaGreatXAt2
open Go Go.Proofs
namespace Ab
set_option maxRecDepth 100000
set_option maxHeartbeats 1000000
noncomputable def headB (l m : Ps) (re im : Int) : Bool:=and (decide (¬ (l.length : Int) > 20)) (and (l.all qB && ((l.length : Int) == (l.length : Int))) (and (m.all qB && ((m.length : Int) == (l.length : Int))) (timeB re im)))
theorem headB_iff {l m : Ps} {re im : Int} : headB l m re im = true ↔ l.length <= 20 ∧ Okp l ∧ (Okp m ∧ m.length = l.length) ∧ timeB re im = true:=by
 unfold headB
 rw [Bool.and_eq_true,Bool.and_eq_true,Bool.and_eq_true,Bool.and_eq_true,Bool.and_eq_true,List.all_eq_true,List.all_eq_true,beq_iff_eq,beq_iff_eq,decide_eq_true_eq]
 constructor
 ·rintro ⟨h1,⟨h2,_⟩,⟨h3,h4⟩,h5⟩
  exact ⟨by omega,fun r hr => qB_iff.1 (h2 r hr),⟨fun r hr => qB_iff.1 (h3 r hr),by omega⟩,h5⟩
 ·rintro ⟨h1,h2,⟨h3,h4⟩,h5⟩
  exact ⟨by omega,⟨fun r hr => qB_iff.2 (h2 r hr),rfl⟩,⟨fun r hr => qB_iff.2 (h3 r hr),by omega⟩,h5⟩
abbrev argAV : AV:=.tup [.sl [],.int .i64 1]
theorem at_bad {l m : Ps} {re im : Int} (hl : QDs l) (hm : QDs m) (hml : (m.length : Int) <= 9223372036854775807) (hh : headB l m re im = false) : Spec Tryz.prog [] 17 [.sl l,.sl m,tmv re im] argAV:=by
 cases e1 : decide (¬ (l.length : Int) > 20) with
 | false =>
  refine spec_fn T_ok mixed_ok 2 Tryz.func17 fn_ok17 (by kernel_rfl) ?_
  refine gr (fun _ => ?_) (fun g => absurd g (of_decide_eq_false e1))
  repeat (first | refine gT ?_ | refine gF ?_ | refine brT ?_ | refine brF ?_)
  exact And.intro (Or.inr rfl) rfl
 | true =>
 have g1 : ¬ (l.length : Int) > 20:=of_decide_eq_true e1
 have v1:=pvalid_spec (p:=l) (n:=(l.length : Int)) hl (by omega)
 have v2:=pvalid_spec (p:=m) (n:=(l.length : Int)) hm hml
 have tb:=bounded_spec re im
 cases e2 : (l.all qB && ((l.length : Int) == (l.length : Int))) with
 | false =>
  rw [e2] at v1
  refine spec_fn T_ok mixed_ok 2 Tryz.func17 fn_ok17 (by kernel_rfl) ?_
  refine gr (fun g => absurd g g1) (fun _ => ?_)
  repeat (first | refine gT ?_ | refine gF ?_ | refine brT ?_ | refine brF ?_)
  first | refine Exists.intro _ (And.intro (v1) ?_) | refine Hn_by (Exists.intro _ (And.intro (v1) ?_))
  repeat (first | refine gT ?_ | refine gF ?_ | refine brT ?_ | refine brF ?_)
  exact And.intro (Or.inr rfl) rfl
 | true =>
 cases e3 : (m.all qB && ((m.length : Int) == (l.length : Int))) with
 | false =>
  rw [e2] at v1
  rw [e3] at v2
  refine spec_fn T_ok mixed_ok 2 Tryz.func17 fn_ok17 (by kernel_rfl) ?_
  refine gr (fun g => absurd g g1) (fun _ => ?_)
  repeat (first | refine gT ?_ | refine gF ?_ | refine brT ?_ | refine brF ?_)
  first | refine Exists.intro _ (And.intro (v1) ?_) | refine Hn_by (Exists.intro _ (And.intro (v1) ?_))
  repeat (first | refine gT ?_ | refine gF ?_ | refine brT ?_ | refine brF ?_)
  first | refine Exists.intro _ (And.intro (v2) ?_) | refine Hn_by (Exists.intro _ (And.intro (v2) ?_))
  repeat (first | refine gT ?_ | refine gF ?_ | refine brT ?_ | refine brF ?_)
  exact And.intro (Or.inr rfl) rfl
 | true =>
 cases e4 : timeB re im with
 | false =>
  rw [e2] at v1
  rw [e3] at v2
  rw [e4] at tb
  refine spec_fn T_ok mixed_ok 2 Tryz.func17 fn_ok17 (by kernel_rfl) ?_
  refine gr (fun g => absurd g g1) (fun _ => ?_)
  repeat (first | refine gT ?_ | refine gF ?_ | refine brT ?_ | refine brF ?_)
  first | refine Exists.intro _ (And.intro (v1) ?_) | refine Hn_by (Exists.intro _ (And.intro (v1) ?_))
  repeat (first | refine gT ?_ | refine gF ?_ | refine brT ?_ | refine brF ?_)
  first | refine Exists.intro _ (And.intro (v2) ?_) | refine Hn_by (Exists.intro _ (And.intro (v2) ?_))
  repeat (first | refine gT ?_ | refine gF ?_ | refine brT ?_ | refine brF ?_)
  first | refine Exists.intro _ (And.intro (tb) ?_) | refine Hn_by (Exists.intro _ (And.intro (tb) ?_))
  repeat (first | refine gT ?_ | refine gF ?_ | refine brT ?_ | refine brF ?_)
  exact And.intro (Or.inr rfl) rfl
 | true =>
  unfold headB at hh
  rw [e1,e2,e3,e4] at hh
  cases hh
theorem rat_bad {l m : Ps} {re im : Int} (hl : QDs l) (hm : QDs m) (hml : (m.length : Int) <= 9223372036854775807) (hh : headB l m re im = false) : Spec Tryz.prog [] 34 [.sl l,.sl m,tmv re im] argAV:=by
 cases e1 : decide (¬ (l.length : Int) > 20) with
 | false =>
  refine spec_fn T_ok mixed_ok 2 Tryz.func34 fn_ok34 (by kernel_rfl) ?_
  refine gr (fun _ => ?_) (fun g => absurd g (of_decide_eq_false e1))
  repeat (first | refine gT ?_ | refine gF ?_ | refine brT ?_ | refine brF ?_)
  exact And.intro (Or.inr rfl) rfl
 | true =>
 have g1 : ¬ (l.length : Int) > 20:=of_decide_eq_true e1
 have v1:=position_spec (p:=l) (n:=(l.length : Int)) hl (by omega)
 have v2:=position_spec (p:=m) (n:=(l.length : Int)) hm hml
 have tb:=time_spec re im
 cases e2 : (l.all qB && ((l.length : Int) == (l.length : Int))) with
 | false =>
  rw [e2] at v1
  refine spec_fn T_ok mixed_ok 2 Tryz.func34 fn_ok34 (by kernel_rfl) ?_
  refine gr (fun g => absurd g g1) (fun _ => ?_)
  repeat (first | refine gT ?_ | refine gF ?_ | refine brT ?_ | refine brF ?_)
  first | refine Exists.intro _ (And.intro (v1) ?_) | refine Hn_by (Exists.intro _ (And.intro (v1) ?_))
  repeat (first | refine gT ?_ | refine gF ?_ | refine brT ?_ | refine brF ?_)
  exact And.intro (Or.inr rfl) rfl
 | true =>
 cases e3 : (m.all qB && ((m.length : Int) == (l.length : Int))) with
 | false =>
  rw [e2] at v1
  rw [e3] at v2
  refine spec_fn T_ok mixed_ok 2 Tryz.func34 fn_ok34 (by kernel_rfl) ?_
  refine gr (fun g => absurd g g1) (fun _ => ?_)
  repeat (first | refine gT ?_ | refine gF ?_ | refine brT ?_ | refine brF ?_)
  first | refine Exists.intro _ (And.intro (v1) ?_) | refine Hn_by (Exists.intro _ (And.intro (v1) ?_))
  repeat (first | refine gT ?_ | refine gF ?_ | refine brT ?_ | refine brF ?_)
  first | refine Exists.intro _ (And.intro (v2) ?_) | refine Hn_by (Exists.intro _ (And.intro (v2) ?_))
  repeat (first | refine gT ?_ | refine gF ?_ | refine brT ?_ | refine brF ?_)
  exact And.intro (Or.inr rfl) rfl
 | true =>
 cases e4 : timeB re im with
 | false =>
  rw [e2] at v1
  rw [e3] at v2
  rw [e4] at tb
  refine spec_fn T_ok mixed_ok 2 Tryz.func34 fn_ok34 (by kernel_rfl) ?_
  refine gr (fun g => absurd g g1) (fun _ => ?_)
  repeat (first | refine gT ?_ | refine gF ?_ | refine brT ?_ | refine brF ?_)
  first | refine Exists.intro _ (And.intro (v1) ?_) | refine Hn_by (Exists.intro _ (And.intro (v1) ?_))
  repeat (first | refine gT ?_ | refine gF ?_ | refine brT ?_ | refine brF ?_)
  first | refine Exists.intro _ (And.intro (v2) ?_) | refine Hn_by (Exists.intro _ (And.intro (v2) ?_))
  repeat (first | refine gT ?_ | refine gF ?_ | refine brT ?_ | refine brF ?_)
  first | refine Exists.intro _ (And.intro (tb) ?_) | refine Hn_by (Exists.intro _ (And.intro (tb) ?_))
  repeat (first | refine gT ?_ | refine gF ?_ | refine brT ?_ | refine brF ?_)
  exact And.intro (Or.inr rfl) rfl
 | true =>
  unfold headB at hh
  rw [e1,e2,e3,e4] at hh
  cases hh
end Ab
