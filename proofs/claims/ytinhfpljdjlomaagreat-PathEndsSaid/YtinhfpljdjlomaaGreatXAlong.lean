import Derived.Test.YtinhfpljdjlomaaGreatXPiec2
import Derived.Test.YtinhfpljdjlomaaGreatXHull
open Go Go.Proofs
namespace Ab
set_option maxRecDepth 100000
set_option maxHeartbeats 2000000
def hulls (L M : List Bx) (i : Nat) : List Bx:=(List.zipWith hullF L M).take i ++ L.drop i
theorem hulls_zero (L M : List Bx) : hulls L M 0 = L:=by simp [hulls]
theorem hulls_len {L M : List Bx} (h : M.length = L.length) {i : Nat} (hi : i <= L.length) : (hulls L M i).length = L.length:=by
 unfold hulls
 rw [List.length_append,List.length_take,List.length_drop,List.length_zipWith]
 omega
theorem hulls_full {L M : List Bx} (h : M.length = L.length) : hulls L M L.length = List.zipWith hullF L M:=by
 unfold hulls
 rw [List.take_of_length_le (by rw [List.length_zipWith]; omega),List.drop_length,List.append_nil]
theorem hulls_at {L M : List Bx} (h : M.length = L.length) {i : Nat} {x : Bx} (hx : L[i]? = some x) : (hulls L M i)[i]? = some x:=by
 have g:=(List.getElem?_eq_some_iff.1 hx).1
 unfold hulls
 rw [List.getElem?_append_right (by rw [List.length_take,List.length_zipWith]; omega),List.length_take,List.length_zipWith,show i - min i (min L.length M.length) = 0 by omega,List.getElem?_drop,Nat.add_zero,hx]
theorem zip_at {L M : List Bx} {i : Nat} {x y : Bx} (hx : L[i]? = some x) (hy : M[i]? = some y) : (List.zipWith hullF L M)[i]? = some (hullF x y):=by
 rw [List.getElem?_zipWith,hx,hy]
theorem hulls_set {L M : List Bx} (h : M.length = L.length) {i : Nat} {x y : Bx} (hx : L[i]? = some x) (hy : M[i]? = some y) : (hulls L M i).set i (hullF x y) = hulls L M (i + 1):=by
 have g:=(List.getElem?_eq_some_iff.1 hx).1
 have e : ((List.zipWith hullF L M).take i).length = i:=by rw [List.length_take,List.length_zipWith]; omega
 unfold hulls
 rw [List.set_append_right _ _ (by omega),e,Nat.sub_self,List.drop_eq_getElem_cons g,List.set_cons_zero,List.take_add_one,zip_at hx hy,List.append_assoc]
 rfl
theorem brow_set (L : List Bx) (i : Nat) (B : Bx) : (brow L).set i B.cs = brow (L.set i B):=by simp [brow,List.map_set]
theorem brow_at {L : List Bx} {i : Nat} {B : Bx} (h : L[i]? = some B) : (brow L)[i]? = some B.cs:=by simp [brow,h]
section
variable {a b : List (Int × Int)} {re im : Int} (ha : Qvs a) (hb : Qvs b) (hl : a.length <= 20) (hab : b.length = a.length) (ht : timeB re im = true) {r2 i2 : Int} {L : List Bx} (eL : atO a b re im = some L)
include ha hb hl hab ht eL
theorem along_bad {e : Int} (h0 : e ≠ 0) (s : Spec Tryz.prog [] 17 [.sl (qrow a),.sl (qrow b),tmv r2 i2] (.tup [.sl [],.int .i64 e])) : Spec Tryz.prog [] 35 [.sl (qrow a),.sl (qrow b),tmv re im,tmv r2 i2] (.tup [.sl [],.int .i64 e]):=by
 have la : ((qrow a).length : Int) = a.length:=by rw [qrow_len]
 have lb : ((qrow b).length : Int) = b.length:=by rw [qrow_len]
 have v1:=pvalid_spec (p:=qrow a) (n:=((qrow a).length : Int)) (qrow_qd a) (by omega)
 have v2:=pvalid_spec (p:=qrow b) (n:=((qrow a).length : Int)) (qrow_qd b) (by omega)
 have tb:=bounded_spec re im
 rw [qrow_all ha,show (((qrow a).length : Int) == ((qrow a).length : Int)) = true from beq_self_eq_true _] at v1
 rw [qrow_all hb,show (((qrow b).length : Int) == ((qrow a).length : Int)) = true by rw [beq_iff_eq]; omega] at v2
 rw [ht] at tb
 obtain ⟨⟨t1,t2⟩,t3,t4⟩:=timeB_iff.1 ht
 have hn : ((qrow a).length : Int).toNat = a.length:=by omega
 refine spec_fn T_ok mixed_ok 3 Tryz.func35 fn_ok35 (by kernel_rfl) ?_
 refine Hn_in Tryz.f17 Tryz.func17 fn_ok17 (by kernel_rfl) ?_
 refine gr (fun g => absurd g (by omega)) (fun _ => ?_)
 repeat (first | refine gT ?_ | refine gF ?_ | refine brT ?_ | refine brF ?_)
 refine Hn_by (Exists.intro _ (And.intro v1 ?_))
 repeat (first | refine gT ?_ | refine gF ?_ | refine brT ?_ | refine brF ?_)
 refine Hn_by (Exists.intro _ (And.intro v2 ?_))
 repeat (first | refine gT ?_ | refine gF ?_ | refine brT ?_ | refine brF ?_)
 refine Hn_by (Exists.intro _ (And.intro tb ?_))
 repeat (first | refine gT ?_ | refine gF ?_ | refine brT ?_ | refine brF ?_)
 refine Hn_in Tryz.f45 Tryz.func45 fn_ok45 (by kernel_rfl) ?_
 refine And.intro (Or.inr rfl) ?_
 refine And.intro (show (0 : Int) <= ((qrow a).length : Int) by omega) (And.intro (Int.le_refl _) (And.intro (show ((qrow a).length : Int) * 40 <= 140737488355328 by omega) (And.intro (show ((qrow a).length : Int) <= maxLen by simp only [maxLen]; omega) ?_)))
 refine aw_loopN 6 (fun l : List Bx => stOf [(0,.sl (qrow a)),(5,.bp 2 0),(8,.fn 72 [.bp 4 0,.bp 3 0]),(9,.ms 5 0 a.length),(41,.sl (qrow a)),(42,.int .i64 ((qrow a).length : Int)),(43,.int .i64 (l.length : Int))]
   [(0,.box [.int .i64 re,.int .i64 im]),(1,.box [.int .i64 r2,.int .i64 i2]),(2,.box [.int .i64 re,.int .i64 im]),(3,.box [.sl (qrow a)]),(4,.box [.sl (qrow b)]),(5,.arr (60,5) (bfill l a.length) true)] 6)
  (fun l => l.length <= a.length ∧ Sofar a b re im l) (fun l => a.length - l.length) [] ⟨Nat.zero_le _,fun i B h => by simp at h⟩
  (.inl (le_by ⟨rfl,rfl,rfl,(show AV.ms 5 0 ((qrow a).length : Int).toNat = _ by rw [hn]),rfl,rfl,rfl,trivial⟩ ⟨rfl,rfl,rfl,rfl,rfl,(show some (Blk.arr (60,5) (List.replicate ((qrow a).length : Int).toNat zbx) true) = _ by rw [hn]; rfl),trivial⟩ (Nat.le_refl _))) (by kernel_rfl) ?_
 rintro l ⟨hi,hs⟩ P hP
 refine br (fun g => ?_) (fun g => ?_)
 ·have g : l.length < a.length:=by have : (l.length : Int) < ((qrow a).length : Int):=g; omega
  obtain ⟨x,hx⟩:=get_of g
  obtain ⟨y,hy⟩:=get_of (l:=b) (i:=l.length) (by omega)
  have qx:=ha x (List.mem_of_getElem? hx)
  have qy:=hb y (List.mem_of_getElem? hy)
  cases hpt : ptO x y re im with
  | none => rw [atO_none hx hy hpt] at eL; cases eL
  | some B =>
   refine piec2_tot qx qy (by omega) (by omega) (by omega) (by omega) (qrow_at hy) (qrow_at hx) _ (by kernel_rfl) (by kernel_rfl) (clean_at (cleanB_ok (by kernel_rfl))) (res:=.tup [B.av,.int .i64 0]) (by rw [hpt]; rfl) ?_
   repeat (first | refine gT ?_ | refine gF ?_ | refine brT ?_ | refine brF ?_)
   refine And.intro (Int.natCast_nonneg l.length) (And.intro (show (l.length : Int) < (a.length : Int) by omega) ?_)
   refine Exists.intro zbx (And.intro (show (bfill l a.length)[0 + (l.length : Int).toNat]? = some zbx by rw [Nat.zero_add,Int.toNat_natCast]; exact bfill_at g) ?_)
   have hlen : (l ++ [B]).length = l.length + 1:=by simp
   have hw:=w64_succ g (by omega)
   rw [<- hlen] at hw
   refine hP (l ++ [B]) _ ?_ ⟨by omega,hs.snoc hx hy hpt⟩ (by omega)
   refine leC_by ⟨⟨rfl,rfl⟩,⟨rfl,rfl⟩,⟨rfl,rfl⟩,⟨rfl,rfl⟩,⟨rfl,rfl⟩,⟨rfl,rfl⟩,⟨int_eq hw,rfl⟩,trivial⟩ ⟨⟨⟨rfl,rfl⟩,rfl⟩,⟨⟨rfl,rfl⟩,rfl⟩,⟨⟨rfl,rfl⟩,rfl⟩,⟨⟨rfl,rfl⟩,rfl⟩,⟨⟨rfl,rfl⟩,rfl⟩,⟨⟨?_,rfl⟩,rfl⟩,trivial⟩ (Nat.le_refl _)
   show some (Blk.arr (60,5) ((bfill l a.length).set (0 + (l.length : Int).toNat) B.cs) true) = _
   rw [Nat.zero_add,Int.toNat_natCast,bfill_set g]
 have g : ¬ l.length < a.length:=by have : ¬ (l.length : Int) < ((qrow a).length : Int):=g; omega
 have e : l.length = a.length:=by omega
 have e5:=atO_some e.symm (by omega) hs
 rw [eL] at e5
 cases e5
 clear hP hi g
 refine And.intro (Or.inr rfl) ?_
 repeat (first | refine gT ?_ | refine gF ?_ | refine brT ?_ | refine brF ?_)
 refine Hn_by (Exists.intro _ (And.intro s ?_))
 refine brN (fun _ => ?_) (fun g => absurd g h0)
 exact And.intro (Or.inr rfl) rfl
theorem along_ok {M : List Bx} (hM : M.length = L.length) (gL : ∀ B ∈ L,Gd B) (gM : ∀ B ∈ M,Gd B) (s : Spec Tryz.prog [] 17 [.sl (qrow a),.sl (qrow b),tmv r2 i2] (.tup [.sl (brow M),.int .i64 0])) : Spec Tryz.prog [] 35 [.sl (qrow a),.sl (qrow b),tmv re im,tmv r2 i2] (.tup [.sl (brow (List.zipWith hullF L M)),.int .i64 0]):=by
 have la : ((qrow a).length : Int) = a.length:=by rw [qrow_len]
 have lb : ((qrow b).length : Int) = b.length:=by rw [qrow_len]
 have v1:=pvalid_spec (p:=qrow a) (n:=((qrow a).length : Int)) (qrow_qd a) (by omega)
 have v2:=pvalid_spec (p:=qrow b) (n:=((qrow a).length : Int)) (qrow_qd b) (by omega)
 have tb:=bounded_spec re im
 rw [qrow_all ha,show (((qrow a).length : Int) == ((qrow a).length : Int)) = true from beq_self_eq_true _] at v1
 rw [qrow_all hb,show (((qrow b).length : Int) == ((qrow a).length : Int)) = true by rw [beq_iff_eq]; omega] at v2
 rw [ht] at tb
 obtain ⟨⟨t1,t2⟩,t3,t4⟩:=timeB_iff.1 ht
 have hn : ((qrow a).length : Int).toNat = a.length:=by omega
 refine spec_fn T_ok mixed_ok 3 Tryz.func35 fn_ok35 (by kernel_rfl) ?_
 refine Hn_in Tryz.f17 Tryz.func17 fn_ok17 (by kernel_rfl) ?_
 refine gr (fun g => absurd g (by omega)) (fun _ => ?_)
 repeat (first | refine gT ?_ | refine gF ?_ | refine brT ?_ | refine brF ?_)
 refine Hn_by (Exists.intro _ (And.intro v1 ?_))
 repeat (first | refine gT ?_ | refine gF ?_ | refine brT ?_ | refine brF ?_)
 refine Hn_by (Exists.intro _ (And.intro v2 ?_))
 repeat (first | refine gT ?_ | refine gF ?_ | refine brT ?_ | refine brF ?_)
 refine Hn_by (Exists.intro _ (And.intro tb ?_))
 repeat (first | refine gT ?_ | refine gF ?_ | refine brT ?_ | refine brF ?_)
 refine Hn_in Tryz.f45 Tryz.func45 fn_ok45 (by kernel_rfl) ?_
 refine And.intro (Or.inr rfl) ?_
 refine And.intro (show (0 : Int) <= ((qrow a).length : Int) by omega) (And.intro (Int.le_refl _) (And.intro (show ((qrow a).length : Int) * 40 <= 140737488355328 by omega) (And.intro (show ((qrow a).length : Int) <= maxLen by simp only [maxLen]; omega) ?_)))
 refine aw_loopN 6 (fun l : List Bx => stOf [(0,.sl (qrow a)),(5,.bp 2 0),(8,.fn 72 [.bp 4 0,.bp 3 0]),(9,.ms 5 0 a.length),(41,.sl (qrow a)),(42,.int .i64 ((qrow a).length : Int)),(43,.int .i64 (l.length : Int))]
   [(0,.box [.int .i64 re,.int .i64 im]),(1,.box [.int .i64 r2,.int .i64 i2]),(2,.box [.int .i64 re,.int .i64 im]),(3,.box [.sl (qrow a)]),(4,.box [.sl (qrow b)]),(5,.arr (60,5) (bfill l a.length) true)] 6)
  (fun l => l.length <= a.length ∧ Sofar a b re im l) (fun l => a.length - l.length) [] ⟨Nat.zero_le _,fun i B h => by simp at h⟩
  (.inl (le_by ⟨rfl,rfl,rfl,(show AV.ms 5 0 ((qrow a).length : Int).toNat = _ by rw [hn]),rfl,rfl,rfl,trivial⟩ ⟨rfl,rfl,rfl,rfl,rfl,(show some (Blk.arr (60,5) (List.replicate ((qrow a).length : Int).toNat zbx) true) = _ by rw [hn]; rfl),trivial⟩ (Nat.le_refl _))) (by kernel_rfl) ?_
 rintro l ⟨hi,hs⟩ P hP
 refine br (fun g => ?_) (fun g => ?_)
 ·have g : l.length < a.length:=by have : (l.length : Int) < ((qrow a).length : Int):=g; omega
  obtain ⟨x,hx⟩:=get_of g
  obtain ⟨y,hy⟩:=get_of (l:=b) (i:=l.length) (by omega)
  have qx:=ha x (List.mem_of_getElem? hx)
  have qy:=hb y (List.mem_of_getElem? hy)
  cases hpt : ptO x y re im with
  | none => rw [atO_none hx hy hpt] at eL; cases eL
  | some B =>
   refine piec2_tot qx qy (by omega) (by omega) (by omega) (by omega) (qrow_at hy) (qrow_at hx) _ (by kernel_rfl) (by kernel_rfl) (clean_at (cleanB_ok (by kernel_rfl))) (res:=.tup [B.av,.int .i64 0]) (by rw [hpt]; rfl) ?_
   repeat (first | refine gT ?_ | refine gF ?_ | refine brT ?_ | refine brF ?_)
   refine And.intro (Int.natCast_nonneg l.length) (And.intro (show (l.length : Int) < (a.length : Int) by omega) ?_)
   refine Exists.intro zbx (And.intro (show (bfill l a.length)[0 + (l.length : Int).toNat]? = some zbx by rw [Nat.zero_add,Int.toNat_natCast]; exact bfill_at g) ?_)
   have hlen : (l ++ [B]).length = l.length + 1:=by simp
   have hw:=w64_succ g (by omega)
   rw [<- hlen] at hw
   refine hP (l ++ [B]) _ ?_ ⟨by omega,hs.snoc hx hy hpt⟩ (by omega)
   refine leC_by ⟨⟨rfl,rfl⟩,⟨rfl,rfl⟩,⟨rfl,rfl⟩,⟨rfl,rfl⟩,⟨rfl,rfl⟩,⟨rfl,rfl⟩,⟨int_eq hw,rfl⟩,trivial⟩ ⟨⟨⟨rfl,rfl⟩,rfl⟩,⟨⟨rfl,rfl⟩,rfl⟩,⟨⟨rfl,rfl⟩,rfl⟩,⟨⟨rfl,rfl⟩,rfl⟩,⟨⟨rfl,rfl⟩,rfl⟩,⟨⟨?_,rfl⟩,rfl⟩,trivial⟩ (Nat.le_refl _)
   show some (Blk.arr (60,5) ((bfill l a.length).set (0 + (l.length : Int).toNat) B.cs) true) = _
   rw [Nat.zero_add,Int.toNat_natCast,bfill_set g]
 have g : ¬ l.length < a.length:=by have : ¬ (l.length : Int) < ((qrow a).length : Int):=g; omega
 have e : l.length = a.length:=by omega
 have e5:=atO_some e.symm (by omega) hs
 rw [eL] at e5
 cases e5
 clear hP hi g
 refine And.intro (Or.inr rfl) ?_
 repeat (first | refine gT ?_ | refine gF ?_ | refine brT ?_ | refine brF ?_)
 refine Hn_by (Exists.intro _ (And.intro s ?_))
 repeat (first | refine gT ?_ | refine gF ?_ | refine brT ?_ | refine brF ?_)
 refine aw_loopN 6 (fun i : Nat => stOf [(10,.ms 5 0 a.length),(12,.sl (brow M)),(35,.int .i64 (a.length : Int)),(36,.int .i64 (i : Int))] [(5,.arr (60,5) (brow (hulls L M i)) true)] 6) (fun i => i <= a.length) (fun i => a.length - i) 0 (Nat.zero_le _)
  (.inl (le_by ⟨rfl,rfl,rfl,rfl,trivial⟩ ⟨(show some (Blk.arr (60,5) (bfill L a.length) true) = _ by rw [<- e,bfill_full,hulls_zero]),trivial⟩ (Nat.le_refl _))) (by kernel_rfl) ?_
 intro i hi P hP
 refine br (fun g => ?_) (fun g => ?_)
 ·have g : i < a.length:=by have : (i : Int) < (a.length : Int):=g; omega
  obtain ⟨x,hx⟩:=get_of (l:=L) (i:=i) (by omega)
  obtain ⟨y,hy⟩:=get_of (l:=M) (i:=i) (by omega)
  have hu:=ghull_spec (gL x (List.mem_of_getElem? hx)) (gM y (List.mem_of_getElem? hy))
  have hr : (brow (hulls L M i))[0 + (i : Int).toNat]? = some x.cs:=by rw [Nat.zero_add,Int.toNat_natCast]; exact brow_at (hulls_at hM hx)
  have hw:=w64_succ g (by omega)
  generalize hz : hullF x y = z at hu
  refine And.intro (by kernel_rfl) ?_
  refine And.intro (Int.natCast_nonneg i) (And.intro (show (i : Int) < (a.length : Int) by omega) ?_)
  refine Exists.intro _ (And.intro hr ?_)
  refine And.intro (Int.natCast_nonneg i) (Exists.intro _ (And.intro (at_nat (brow_at hy)) ?_))
  repeat (first | refine gT ?_ | refine gF ?_ | refine brT ?_ | refine brF ?_ | refine And.intro rfl ?_)
  first | refine Exists.intro _ (And.intro (hu) ?_) | refine Hn_by (Exists.intro _ (And.intro (hu) ?_))
  repeat (first | refine gT ?_ | refine gF ?_ | refine brT ?_ | refine brF ?_ | refine And.intro rfl ?_)
  refine And.intro (Int.natCast_nonneg i) (And.intro (show (i : Int) < (a.length : Int) by omega) ?_)
  refine Exists.intro _ (And.intro hr ?_)
  refine hP (i + 1) _ ?_ g (by omega)
  refine .inl (le_by ⟨rfl,rfl,rfl,int_eq hw,trivial⟩ ⟨?_,trivial⟩ (Nat.le_refl _))
  show some (Blk.arr (60,5) ((brow (hulls L M i)).set (0 + (i : Int).toNat) z.cs) true) = _
  rw [Nat.zero_add,Int.toNat_natCast,brow_set,<- hz,hulls_set hM hx hy]
 ·have g : ¬ i < a.length:=by have : ¬ (i : Int) < (a.length : Int):=g; omega
  have ei : i = L.length:=by omega
  refine And.intro (Or.inr rfl) ?_
  refine And.intro (show 0 + a.length <= (brow (hulls L M i)).length by rw [brow_len,hulls_len hM (by omega)]; omega) ?_
  show AV.tup [AV.sl (((brow (hulls L M i)).drop 0).take a.length),AV.int .i64 0] = _
  rw [ei,hulls_full hM,List.drop_zero,List.take_of_length_le (by rw [brow_len,List.length_zipWith]; omega)]
end
end Ab
