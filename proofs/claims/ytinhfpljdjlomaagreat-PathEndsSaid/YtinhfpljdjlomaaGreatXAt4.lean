import Derived.Test.YtinhfpljdjlomaaGreatXAt3
open Go Go.Proofs
namespace Ab
set_option maxRecDepth 100000
set_option maxHeartbeats 1000000
def bfill (l : List Bx) (n : Nat) : List (List AV):=brow l ++ List.replicate (n - l.length) zbx
theorem brow_len (l : List Bx) : (brow l).length = l.length:=by simp [brow]
theorem bfill_set {l : List Bx} {n : Nat} {B : Bx} (h : l.length < n) : (bfill l n).set l.length B.cs = bfill (l ++ [B]) n:=by
 unfold bfill
 rw [List.set_append_right _ _ (by rw [brow_len]; omega),brow_len,Nat.sub_self,show n - l.length = (n - (l ++ [B]).length) + 1 by simp; omega,List.replicate_succ,List.set_cons_zero]
 simp [brow]
theorem bfill_at {l : List Bx} {n : Nat} (h : l.length < n) : (bfill l n)[l.length]? = some zbx:=by
 unfold bfill
 rw [List.getElem?_append_right (by rw [brow_len]; omega),brow_len,Nat.sub_self,show n - l.length = (n - l.length - 1) + 1 by omega]
 rfl
theorem bfill_full {l : List Bx} : bfill l l.length = brow l:=by simp [bfill]
section
variable {a b : List (Int × Int)} {re im : Int} (ha : Qvs a) (hb : Qvs b) (hl : a.length <= 20) (hab : b.length = a.length) (ht : timeB re im = true)
include ha hb hl hab ht
theorem at_ok : Spec Tryz.prog [] 17 [.sl (qrow a),.sl (qrow b),tmv re im] (atAV (atO a b re im)):=by
 have la : ((qrow a).length : Int) = a.length:=by rw [qrow_len]
 have lb : ((qrow b).length : Int) = b.length:=by rw [qrow_len]
 have v1:=pvalid_spec (p:=qrow a) (n:=((qrow a).length : Int)) (qrow_qd a) (by omega)
 have v2:=pvalid_spec (p:=qrow b) (n:=((qrow a).length : Int)) (qrow_qd b) (by omega)
 have tb:=bounded_spec re im
 rw [qrow_all ha,show (((qrow a).length : Int) == ((qrow a).length : Int)) = true from beq_self_eq_true _] at v1
 rw [qrow_all hb,show (((qrow b).length : Int) == ((qrow a).length : Int)) = true by rw [beq_iff_eq]; omega] at v2
 rw [ht] at tb
 obtain ⟨⟨t1,t2⟩,t3,t4⟩:=timeB_iff.1 ht
 have hn : ((qrow a).length : Int).toNat = a.length:=by omega
 refine spec_fn T_ok mixed_ok 2 Tryz.func17 fn_ok17 (by kernel_rfl) ?_
 refine gr (fun g => absurd g (by omega)) (fun _ => ?_)
 repeat (first | refine gT ?_ | refine gF ?_ | refine brT ?_ | refine brF ?_)
 first | refine Exists.intro _ (And.intro (v1) ?_) | refine Hn_by (Exists.intro _ (And.intro (v1) ?_))
 repeat (first | refine gT ?_ | refine gF ?_ | refine brT ?_ | refine brF ?_)
 first | refine Exists.intro _ (And.intro (v2) ?_) | refine Hn_by (Exists.intro _ (And.intro (v2) ?_))
 repeat (first | refine gT ?_ | refine gF ?_ | refine brT ?_ | refine brF ?_)
 first | refine Exists.intro _ (And.intro (tb) ?_) | refine Hn_by (Exists.intro _ (And.intro (tb) ?_))
 repeat (first | refine gT ?_ | refine gF ?_ | refine brT ?_ | refine brF ?_)
 refine Hn_in Tryz.f45 Tryz.func45 fn_ok45 (by kernel_rfl) ?_
 refine And.intro (Or.inr rfl) ?_
 refine And.intro (show (0 : Int) <= ((qrow a).length : Int) by omega) (And.intro (Int.le_refl _) (And.intro (show ((qrow a).length : Int) * 40 <= 140737488355328 by omega) (And.intro (show ((qrow a).length : Int) <= maxLen by simp only [maxLen]; omega) ?_)))
 refine aw_loopN 4 (fun l : List Bx => stOf [(0,.sl (qrow a)),(5,.bp 0 0),(8,.fn 72 [.bp 2 0,.bp 1 0]),(9,.ms 3 0 a.length),(41,.sl (qrow a)),(42,.int .i64 ((qrow a).length : Int)),(43,.int .i64 (l.length : Int))]
   [(0,.box [.int .i64 re,.int .i64 im]),(1,.box [.sl (qrow a)]),(2,.box [.sl (qrow b)]),(3,.arr (60,5) (bfill l a.length) true)] 4)
  (fun l => l.length <= a.length ∧ Sofar a b re im l) (fun l => a.length - l.length) [] ⟨Nat.zero_le _,fun i B h => by simp at h⟩
  (.inl (le_by ⟨rfl,rfl,rfl,(show AV.ms 3 0 ((qrow a).length : Int).toNat = _ by rw [hn]),rfl,rfl,rfl,trivial⟩ ⟨rfl,rfl,rfl,(show some (Blk.arr (60,5) (List.replicate ((qrow a).length : Int).toNat zbx) true) = _ by rw [hn]; rfl),trivial⟩ (Nat.le_refl _))) (by kernel_rfl) ?_
 rintro l ⟨hi,hs⟩ P hP
 refine br (fun g => ?_) (fun g => ?_)
 ·have g : l.length < a.length:=by have : (l.length : Int) < ((qrow a).length : Int):=g; omega
  obtain ⟨x,hx⟩:=get_of g
  obtain ⟨y,hy⟩:=get_of (l:=b) (i:=l.length) (by omega)
  have qx:=ha x (List.mem_of_getElem? hx)
  have qy:=hb y (List.mem_of_getElem? hy)
  cases hpt : ptO x y re im with
  | none =>
   refine piece_tot qx qy (by omega) (by omega) (by omega) (by omega) (qrow_at hy) (qrow_at hx) _ (by kernel_rfl) (by kernel_rfl) (clean_at (cleanB_ok (by kernel_rfl))) (res:=.tup [bx 0 0 0 0 false,.int .i64 2]) (by rw [hpt]; rfl) ?_
   repeat (first | refine gT ?_ | refine gF ?_ | refine brT ?_ | refine brF ?_)
   rw [atO_none hx hy hpt]
   exact And.intro (Or.inr rfl) rfl
  | some B =>
   refine piece_tot qx qy (by omega) (by omega) (by omega) (by omega) (qrow_at hy) (qrow_at hx) _ (by kernel_rfl) (by kernel_rfl) (clean_at (cleanB_ok (by kernel_rfl))) (res:=.tup [B.av,.int .i64 0]) (by rw [hpt]; rfl) ?_
   repeat (first | refine gT ?_ | refine gF ?_ | refine brT ?_ | refine brF ?_)
   refine And.intro (Int.natCast_nonneg l.length) (And.intro (show (l.length : Int) < (a.length : Int) by omega) ?_)
   refine Exists.intro zbx (And.intro (show (bfill l a.length)[0 + (l.length : Int).toNat]? = some zbx by rw [Nat.zero_add,Int.toNat_natCast]; exact bfill_at g) ?_)
   have hlen : (l ++ [B]).length = l.length + 1:=by simp
   have hw:=w64_succ g (by omega)
   rw [<- hlen] at hw
   refine hP (l ++ [B]) _ ?_ ⟨by omega,hs.snoc hx hy hpt⟩ (by omega)
   refine leC_by ⟨⟨rfl,rfl⟩,⟨rfl,rfl⟩,⟨rfl,rfl⟩,⟨rfl,rfl⟩,⟨rfl,rfl⟩,⟨rfl,rfl⟩,⟨int_eq hw,rfl⟩,trivial⟩ ⟨⟨⟨rfl,rfl⟩,rfl⟩,⟨⟨rfl,rfl⟩,rfl⟩,⟨⟨rfl,rfl⟩,rfl⟩,⟨⟨?_,rfl⟩,rfl⟩,trivial⟩ (Nat.le_refl _)
   show some (Blk.arr (60,5) ((bfill l a.length).set (0 + (l.length : Int).toNat) B.cs) true) = _
   rw [Nat.zero_add,Int.toNat_natCast,bfill_set g]
 ·have g : ¬ l.length < a.length:=by have : ¬ (l.length : Int) < ((qrow a).length : Int):=g; omega
  have e : l.length = a.length:=by omega
  rw [atO_some e.symm (by omega) hs]
  refine And.intro (Or.inr rfl) ?_
  refine And.intro (show 0 + a.length <= (bfill l a.length).length by rw [<- e,bfill_full,brow_len]; omega) ?_
  show AV.tup [AV.sl (((bfill l a.length).drop 0).take a.length),AV.int .i64 0] = _
  rw [<- e,bfill_full,List.drop_zero,List.take_of_length_le (by rw [brow_len]; exact Nat.le_refl _)]
  rfl
end
end Ab
