import Derived.Test.YtinhfpljdjlomaaGreatXAt4
open Go Go.Proofs
namespace Ab
set_option maxRecDepth 100000
set_option maxHeartbeats 1000000
def bacV : List Bx -> AV
 | [] => .nil
 | B :: l => .ms 1 0 (B :: l).length
def bacH : List Bx -> List (Nat × Blk)
 | [] => []
 | B :: l => [(1,.arr (60,5) (brow (B :: l)) true)]
theorem brow_snoc (l : List Bx) (B : Bx) : brow l ++ [B.cs] = brow (l ++ [B]):=by simp [brow]
section
variable {a b : List (Int × Int)} {re im : Int} (ha : Qvs a) (hb : Qvs b) (hl : a.length <= 20) (hab : b.length = a.length) (ht : timeB re im = true)
include ha hb hl hab ht
theorem rat_ok : Spec Tryz.prog [] 34 [.sl (qrow a),.sl (qrow b),tmv re im] (atAV (atO a b re im)):=by
 have la : ((qrow a).length : Int) = a.length:=by rw [qrow_len]
 have lb : ((qrow b).length : Int) = b.length:=by rw [qrow_len]
 have v1:=position_spec (p:=qrow a) (n:=((qrow a).length : Int)) (qrow_qd a) (by omega)
 have v2:=position_spec (p:=qrow b) (n:=((qrow a).length : Int)) (qrow_qd b) (by omega)
 have tb:=time_spec re im
 rw [qrow_all ha,show (((qrow a).length : Int) == ((qrow a).length : Int)) = true from beq_self_eq_true _] at v1
 rw [qrow_all hb,show (((qrow b).length : Int) == ((qrow a).length : Int)) = true by rw [beq_iff_eq]; omega] at v2
 rw [ht] at tb
 obtain ⟨⟨t1,t2⟩,t3,t4⟩:=timeB_iff.1 ht
 refine spec_fn T_ok mixed_ok 0 Tryz.func34 fn_ok34 (by kernel_rfl) ?_
 refine gr (fun g => absurd g (by omega)) (fun _ => ?_)
 repeat (first | refine gT ?_ | refine gF ?_ | refine brT ?_ | refine brF ?_)
 first | refine Exists.intro _ (And.intro (v1) ?_) | refine Hn_by (Exists.intro _ (And.intro (v1) ?_))
 repeat (first | refine gT ?_ | refine gF ?_ | refine brT ?_ | refine brF ?_)
 first | refine Exists.intro _ (And.intro (v2) ?_) | refine Hn_by (Exists.intro _ (And.intro (v2) ?_))
 repeat (first | refine gT ?_ | refine gF ?_ | refine brT ?_ | refine brF ?_)
 first | refine Exists.intro _ (And.intro (tb) ?_) | refine Hn_by (Exists.intro _ (And.intro (tb) ?_))
 repeat (first | refine gT ?_ | refine gF ?_ | refine brT ?_ | refine brF ?_)
 refine aw_loopN 1 (fun l : List Bx => stOf [(0,.sl (qrow a)),(1,.sl (qrow b)),(5,.bp 0 0),(8,bacV l),(9,.int .i64 (l.length : Int))]
   ((0,.box [.int .i64 re,.int .i64 im]) :: bacH l) 2)
  (fun l => l.length <= a.length ∧ Sofar a b re im l) (fun l => a.length - l.length) [] ⟨Nat.zero_le _,fun i B h => by simp at h⟩
  (.inl (le_by ⟨rfl,rfl,rfl,rfl,rfl,trivial⟩ ⟨rfl,trivial⟩ (show 1 <= 2 by decide))) (by kernel_rfl) ?_
 rintro l ⟨hi,hs⟩ P hP
 refine br (fun g => ?_) (fun g => ?_)
 ·have g : l.length < a.length:=by have : (l.length : Int) < ((qrow a).length : Int):=g; omega
  obtain ⟨x,hx⟩:=get_of g
  obtain ⟨y,hy⟩:=get_of (l:=b) (i:=l.length) (by omega)
  have qx:=ha x (List.mem_of_getElem? hx)
  have qy:=hb y (List.mem_of_getElem? hy)
  have pt:=point_tot qx qy (re:=re) (im:=im) (by omega) (by omega) (by omega) (by omega)
  cases hpt : ptO x y re im with
  | none =>
   rw [hpt] at pt
   rw [atO_none hx hy hpt]
   match l with
   | [] =>
    refine And.intro (by kernel_rfl) ?_
    refine And.intro (Int.natCast_nonneg _) (Exists.intro _ (And.intro (at_nat (qrow_at hx)) ?_))
    refine And.intro (Int.natCast_nonneg _) (Exists.intro _ (And.intro (at_nat (qrow_at hy)) ?_))
    repeat (first | refine gT ?_ | refine gF ?_ | refine brT ?_ | refine brF ?_ | refine And.intro rfl ?_)
    first | refine Exists.intro _ (And.intro (pt) ?_) | refine Hn_by (Exists.intro _ (And.intro (pt) ?_))
    repeat (first | refine gT ?_ | refine gF ?_ | refine brT ?_ | refine brF ?_ | refine And.intro rfl ?_)
    exact And.intro (Or.inr rfl) rfl
   | C :: l =>
    refine And.intro (by kernel_rfl) ?_
    refine And.intro (Int.natCast_nonneg _) (Exists.intro _ (And.intro (at_nat (qrow_at hx)) ?_))
    refine And.intro (Int.natCast_nonneg _) (Exists.intro _ (And.intro (at_nat (qrow_at hy)) ?_))
    repeat (first | refine gT ?_ | refine gF ?_ | refine brT ?_ | refine brF ?_ | refine And.intro rfl ?_)
    first | refine Exists.intro _ (And.intro (pt) ?_) | refine Hn_by (Exists.intro _ (And.intro (pt) ?_))
    repeat (first | refine gT ?_ | refine gF ?_ | refine brT ?_ | refine brF ?_ | refine And.intro rfl ?_)
    exact And.intro (Or.inr rfl) rfl
  | some B =>
   rw [hpt] at pt
   rw [show bAV (some B) = .tup [bx B.a B.b B.c B.d B.w,.int .i64 0] from rfl] at pt
   have hlen : (l ++ [B]).length = l.length + 1:=by simp
   have hw:=w64_succ g (by omega)
   rw [<- hlen] at hw
   have hsn:=hs.snoc hx hy hpt
   match l with
   | [] =>
    refine And.intro (by kernel_rfl) ?_
    refine And.intro (Int.natCast_nonneg _) (Exists.intro _ (And.intro (at_nat (qrow_at hx)) ?_))
    refine And.intro (Int.natCast_nonneg _) (Exists.intro _ (And.intro (at_nat (qrow_at hy)) ?_))
    repeat (first | refine gT ?_ | refine gF ?_ | refine brT ?_ | refine brF ?_ | refine And.intro rfl ?_)
    first | refine Exists.intro _ (And.intro (pt) ?_) | refine Hn_by (Exists.intro _ (And.intro (pt) ?_))
    repeat (first | refine gT ?_ | refine gF ?_ | refine brT ?_ | refine brF ?_ | refine And.intro rfl ?_)
    refine And.intro (by decide) (And.intro (by decide) (And.intro (show 1 <= maxLen by simp [maxLen]) (And.intro (Nat.le_refl 1) ?_)))
    refine hP [B] _ ?_ ⟨by simp at hlen g ⊢; omega,hsn⟩ (by simp at g ⊢; omega)
    exact leR_by [(1,4)] [] rfl rfl (by decide) ⟨.inl rfl,.inl rfl,⟨by decide,rfl⟩,⟨by decide,rfl⟩,int_eq hw,trivial⟩ ⟨⟨rfl,rfl,_,rfl,⟨_,_,rfl,rfl,_,_,rfl,rfl,rfl⟩⟩,⟨rfl,trivial,rfl⟩,trivial⟩
   | C :: l =>
    have hm : (C :: l).length = (brow (C :: l)).length:=(brow_len _).symm
    refine And.intro (by kernel_rfl) ?_
    refine And.intro (Int.natCast_nonneg _) (Exists.intro _ (And.intro (at_nat (qrow_at hx)) ?_))
    refine And.intro (Int.natCast_nonneg _) (Exists.intro _ (And.intro (at_nat (qrow_at hy)) ?_))
    repeat (first | refine gT ?_ | refine gF ?_ | refine brT ?_ | refine brF ?_ | refine And.intro rfl ?_)
    first | refine Exists.intro _ (And.intro (pt) ?_) | refine Hn_by (Exists.intro _ (And.intro (pt) ?_))
    repeat (first | refine gT ?_ | refine gF ?_ | refine brT ?_ | refine brF ?_ | refine And.intro rfl ?_)
    refine And.intro hm (And.intro (Nat.le_refl 1) (And.intro (show ((C :: l).length + 1) * 40 <= 140737488355328 by omega) (And.intro (show (C :: l).length + 1 <= maxLen by simp only [maxLen]; omega) ?_)))
    refine hP ((C :: l) ++ [B]) _ ?_ ⟨by omega,hsn⟩ (by omega)
    refine leR_by [(1,4)] [] rfl rfl (by decide) ⟨.inl rfl,.inl rfl,⟨by decide,rfl⟩,⟨by decide,?_⟩,int_eq hw,trivial⟩ ⟨⟨rfl,rfl,_,rfl,⟨_,_,rfl,rfl,_,_,rfl,rfl,rfl⟩⟩,⟨rfl,trivial,?_⟩,trivial⟩
    ·show AV.ms 4 0 ((C :: l).length + 1) = AV.ms 4 0 ((C :: l) ++ [B]).length
     rw [hlen]
    ·show some (Blk.arr (60,5) (brow (C :: l) ++ [B.cs]) true) = some (Blk.arr (60,5) (brow ((C :: l) ++ [B])) true)
     rw [brow_snoc]
 ·have g : ¬ l.length < a.length:=by have : ¬ (l.length : Int) < ((qrow a).length : Int):=g; omega
  have e : l.length = a.length:=by omega
  rw [atO_some e.symm (by omega) hs]
  match l with
  | [] => exact And.intro (Or.inr rfl) rfl
  | C :: l =>
   refine And.intro (Or.inr rfl) ?_
   refine And.intro (show 0 + (C :: l).length <= (brow (C :: l)).length by rw [brow_len]; omega) ?_
   show AV.tup [AV.sl (((brow (C :: l)).drop 0).take (C :: l).length),AV.int .i64 0] = _
   rw [List.drop_zero,List.take_of_length_le (by rw [brow_len]; exact Nat.le_refl _)]
   rfl
end
def AtAns (l m : Ps) (re im : Int) (r : AV) : Prop:=(headB l m re im = false ∧ r = argAV) ∨ ∃ a b,l = qrow a ∧ m = qrow b ∧ Qvs a ∧ Qvs b ∧ a.length <= 20 ∧ b.length = a.length ∧ timeB re im = true ∧ r = atAV (atO a b re im)
theorem at_any {l m : Ps} {re im : Int} (hl : QDs l) (hm : QDs m) (hml : (m.length : Int) <= 9223372036854775807) : ∃ r,AtAns l m re im r ∧ Spec Tryz.prog [] 17 [.sl l,.sl m,tmv re im] r ∧ Spec Tryz.prog [] 34 [.sl l,.sl m,tmv re im] r:=by
 cases hh : headB l m re im with
 | false => exact ⟨_,.inl ⟨hh,rfl⟩,at_bad hl hm hml hh,rat_bad hl hm hml hh⟩
 | true =>
  obtain ⟨h1,h2,⟨h3,h4⟩,h5⟩:=headB_iff.1 hh
  obtain ⟨a,rfl,ha⟩:=okp_qrow h2
  obtain ⟨b,rfl,hb⟩:=okp_qrow h3
  rw [qrow_len] at h1 h4
  rw [qrow_len] at h4
  exact ⟨_,.inr ⟨a,b,rfl,rfl,ha,hb,h1,h4,h5,rfl⟩,at_ok ha hb h1 h4 h5,rat_ok ha hb h1 h4 h5⟩
end Ab
