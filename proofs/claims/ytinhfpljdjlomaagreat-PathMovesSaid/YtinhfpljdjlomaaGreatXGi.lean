import Derived.Test.YtinhfpljdjlomaaGreatXCmpQ
import Derived.Test.YtinhfpljdjlomaaGreatXExactP
import Derived.Test.YtinhfpljdjlomaaGreatXSame
section
open Go Go.Proofs
namespace Ab
set_option maxRecDepth 100000
set_option maxHeartbeats 1000000
abbrev Ps:=List (List AV)
def QDs (p : Ps) : Prop:=∀ r ∈ p,QD r
def prow (c : List Ps) : List (List AV):=c.map fun p => [AV.sl p]
abbrev pthv (c : List Ps) : AV:=.sl (prow c)
theorem prow_len (c : List Ps) : (prow c).length = c.length:=by simp [prow]
theorem prow_at {c : List Ps} {i : Nat} {p : Ps} (h : c[i]? = some p) : (prow c)[((i : Int)).toNat]? = some [AV.sl p]:=by rw [Int.toNat_natCast]; simp [prow,h]
theorem at_nat {α : Type} {l : List α} {i : Nat} {x : α} (h : l[i]? = some x) : l[((i : Int)).toNat]? = some x:=by rw [Int.toNat_natCast]; exact h
theorem all_succ {α : Type} {f : α -> Bool} {l : List α} {i : Nat} {x : α} (h : l[i]? = some x) : (l.take (i + 1)).all f = ((l.take i).all f && f x):=by
 rw [List.take_add_one,h]
 simp
theorem get_of {α : Type} {l : List α} {i : Nat} (h : i < l.length) : ∃ x,l[i]? = some x:=⟨l[i],List.getElem?_eq_getElem h⟩
theorem all_false {α : Type} {f : α -> Bool} {l : List α} {i : Nat} {x : α} (h : l[i]? = some x) (hf : f x = false) : l.all f = false:=by
 rw [List.all_eq_false]
 exact ⟨x,List.mem_of_getElem? h,by simp [hf]⟩
theorem w64_succ {i n : Nat} (h : i < n) (hn : (n : Int) <= 9223372036854775807) : w64 ((i : Int) + 1) = ((i + 1 : Nat) : Int):=by rw [w64_eq (by omega)]; omega
theorem rowsOk4 {p : Ps} (h : QDs p) : RowsOk 4 p:=fun r hr => by
 obtain ⟨_,_,_,_,rfl,_,_⟩:=h r hr
 rfl
theorem pvalid_spec {p : Ps} {n : Int} (h : QDs p) (hl : (p.length : Int) <= 9223372036854775807) : Spec Tryz.prog [] 43 [.sl p,.int .i64 n] (.bool (p.all qB && ((p.length : Int) == n))):=by
  refine spec_fn T_ok mixed_ok 0 Tryz.func43 fn_ok43 (by kernel_rfl) ?_
  refine aw_loopN 0 (fun i : Nat => stOf [(0,.sl p),(1,.int .i64 n),(7,.sl p),(8,.int .i64 (p.length : Int)),(9,.int .i64 (i : Int))] [] 0) (fun i => i <= p.length ∧ (p.take i).all qB = true) (fun i => p.length - i) 0 ⟨Nat.zero_le _,rfl⟩
   (.inl (le_by ⟨rfl,rfl,rfl,rfl,rfl,trivial⟩ trivial (Nat.le_refl _))) (by kernel_rfl) ?_
  rintro i ⟨hi,hall⟩ P hP
  refine br (fun g => ?_) (fun g => ?_)
  ·have g : i < p.length:=by have : (i : Int) < (p.length : Int):=g; omega
   obtain ⟨r,hr⟩:=get_of g
   obtain ⟨nn,nl,dn,dl,rfl,_,_⟩:=h r (List.mem_of_getElem? hr)
   have v:=((fun h => (qvalid_tot [] h).1) (h _ (List.mem_of_getElem? hr)))
   refine And.intro (Int.natCast_nonneg i) (Exists.intro _ (And.intro (at_nat hr) ?_))
   cases hb : qB [.bool nn,lim nl,.bool dn,lim dl] with
   | true =>
    rw [hb] at v
    first | refine Exists.intro _ (And.intro (v) ?_) | refine Hn_by (Exists.intro _ (And.intro (v) ?_))
    repeat (first | refine gT ?_ | refine gF ?_ | refine brT ?_ | refine brF ?_)
    refine hP (i + 1) _ ?_ ⟨g,by rw [all_succ hr,hall,hb]; rfl⟩ (by omega)
    refine leC_by ⟨⟨rfl,rfl⟩,⟨rfl,rfl⟩,⟨rfl,rfl⟩,⟨rfl,rfl⟩,⟨int_eq ?_,rfl⟩,trivial⟩ trivial (Nat.le_refl _)
    exact w64_succ g hl
   | false =>
    rw [hb] at v
    first | refine Exists.intro _ (And.intro (v) ?_) | refine Hn_by (Exists.intro _ (And.intro (v) ?_))
    repeat (first | refine gT ?_ | refine gF ?_ | refine brT ?_ | refine brF ?_)
    rw [all_false hr hb]
    exact And.intro (Or.inr rfl) rfl
  ·have g : ¬ i < p.length:=by have : ¬ (i : Int) < (p.length : Int):=g; omega
   have e : i = p.length:=by omega
   subst e
   rw [List.take_length] at hall
   rw [hall]
   exact And.intro (Or.inr rfl) rfl
theorem position_spec {p : Ps} {n : Int} (h : QDs p) (hl : (p.length : Int) <= 9223372036854775807) : Spec Tryz.prog [] 51 [.sl p,.int .i64 n] (.bool (p.all qB && ((p.length : Int) == n))):=by
  refine spec_fn T_ok mixed_ok 0 Tryz.func51 fn_ok51 (by kernel_rfl) ?_
  refine aw_loopN 0 (fun i : Nat => stOf [(0,.sl p),(1,.int .i64 n),(5,.int .i64 (i : Int))] [] 0) (fun i => i <= p.length ∧ (p.take i).all qB = true) (fun i => p.length - i) 0 ⟨Nat.zero_le _,rfl⟩
   (.inl (le_by ⟨rfl,rfl,rfl,trivial⟩ trivial (Nat.le_refl _))) (by kernel_rfl) ?_
  rintro i ⟨hi,hall⟩ P hP
  refine br (fun g => ?_) (fun g => ?_)
  ·have g : i < p.length:=by have : (i : Int) < (p.length : Int):=g; omega
   obtain ⟨r,hr⟩:=get_of g
   obtain ⟨nn,nl,dn,dl,rfl,_,_⟩:=h r (List.mem_of_getElem? hr)
   have v:=((fun h => (qvalid_tot [] h).2) (h _ (List.mem_of_getElem? hr)))
   refine And.intro (Int.natCast_nonneg i) (Exists.intro _ (And.intro (at_nat hr) ?_))
   cases hb : qB [.bool nn,lim nl,.bool dn,lim dl] with
   | true =>
    rw [hb] at v
    first | refine Exists.intro _ (And.intro (v) ?_) | refine Hn_by (Exists.intro _ (And.intro (v) ?_))
    repeat (first | refine gT ?_ | refine gF ?_ | refine brT ?_ | refine brF ?_)
    refine hP (i + 1) _ ?_ ⟨g,by rw [all_succ hr,hall,hb]; rfl⟩ (by omega)
    refine leC_by ⟨⟨rfl,rfl⟩,⟨rfl,rfl⟩,⟨int_eq ?_,rfl⟩,trivial⟩ trivial (Nat.le_refl _)
    exact w64_succ g hl
   | false =>
    rw [hb] at v
    first | refine Exists.intro _ (And.intro (v) ?_) | refine Hn_by (Exists.intro _ (And.intro (v) ?_))
    repeat (first | refine gT ?_ | refine gF ?_ | refine brT ?_ | refine brF ?_)
    rw [all_false hr hb]
    exact And.intro (Or.inr rfl) rfl
  ·have g : ¬ i < p.length:=by have : ¬ (i : Int) < (p.length : Int):=g; omega
   have e : i = p.length:=by omega
   subst e
   rw [List.take_length] at hall
   rw [hall]
   exact And.intro (Or.inr rfl) rfl
end Ab
end
section
open Go Go.Proofs
namespace Ab
set_option maxRecDepth 100000
set_option maxHeartbeats 1000000
def QDc (c : List Ps) : Prop:=∀ p ∈ c,QDs p ∧ (p.length : Int) <= 9223372036854775807
end Ab
end
section
open Go Go.Proofs
namespace Ab
set_option maxRecDepth 100000
set_option maxHeartbeats 1000000
def Okp (p : Ps) : Prop:=∀ r ∈ p,Qok r
theorem mag_len {z : Int} (h : Fits z) : ((Dg.mag (az z)).length : Int) <= 9223372036854775807:=by unfold Fits at h; omega
theorem rsame_spec {a b : Ps} (ha : Okp a) (hb : QDs b) (hl : (a.length : Int) <= 9223372036854775807) : Spec Tryz.prog [] 55 [.sl a,.sl b] (.bool (same a b)):=by
 by_cases hn : a.length = b.length
 rotate_left
 ·have e1 : (a.length : Int) ≠ (b.length : Int):=by omega
  rw [same_false (fun e => hn (by rw [e]))]
  refine spec_fn T_ok mixed_ok 0 Tryz.func55 fn_ok55 (by kernel_rfl) ?_
  refine brN (fun _ => ?_) (fun g => absurd g e1)
  exact And.intro (Or.inr rfl) rfl
 have e1 : (a.length : Int) = (b.length : Int):=by omega
 refine spec_fn T_ok mixed_ok 0 Tryz.func55 fn_ok55 (by kernel_rfl) ?_
 refine brN (fun g => absurd e1 g) (fun _ => ?_)
 refine aw_loop (fun i : Nat => stOf [(0,.sl a),(1,.sl b),(5,.int .i64 (i : Int))] [] 0) (fun i => i <= a.length ∧ a.take i = b.take i) (fun i => a.length - i) 0 ⟨Nat.zero_le _,rfl⟩
  (le_by ⟨rfl,rfl,rfl,trivial⟩ trivial (Nat.le_refl _)) ?_
 rintro i ⟨hi,ht⟩ P hP
 refine br (fun g => ?_) (fun g => ?_)
 ·have g : i < a.length:=by have : (i : Int) < (a.length : Int):=g; omega
  obtain ⟨x,hx⟩:=get_of g
  obtain ⟨y,hy⟩:=get_of (l:=b) (i:=i) (by omega)
  obtain ⟨n,d,rfl,q1⟩:=ha x (List.mem_of_getElem? hx)
  obtain ⟨nn,nl,dn,dl,rfl,_,_⟩:=hb y (List.mem_of_getElem? hy)
  have c:=same2_spec [] (a:=decide (n < 0)) (l:=Dg.mag (az n)) (b:=decide (d < 0)) (m:=Dg.mag (az d)) (c:=nn) (l':=nl) (d:=dn) (m':=dl) (mag_len q1.1) (mag_len q1.2.1)
  refine And.intro (by kernel_rfl) ?_
  refine And.intro (Int.natCast_nonneg i) (Exists.intro _ (And.intro (nat_at hx) ?_))
  refine And.intro (Int.natCast_nonneg i) (Exists.intro _ (And.intro (nat_at hy) ?_))
  by_cases e : (qr n d) = [.bool nn,lim nl,.bool dn,lim dl]
  ·rw [same_true e] at c
   first | refine Exists.intro _ (And.intro (c) ?_) | refine Hn_by (Exists.intro _ (And.intro (c) ?_))
   repeat (first | refine gT ?_ | refine gF ?_ | refine brT ?_ | refine brF ?_)
   refine hP (i + 1) _ ?_ ⟨g,take_eq_succ ht hx hy e⟩ (by omega)
   refine le_by ⟨rfl,rfl,int_eq ?_,trivial⟩ trivial (Nat.le_refl _)
   exact w64_succ g hl
  ·rw [same_false e] at c
   first | refine Exists.intro _ (And.intro (c) ?_) | refine Hn_by (Exists.intro _ (And.intro (c) ?_))
   repeat (first | refine gT ?_ | refine gF ?_ | refine brT ?_ | refine brF ?_)
   rw [same_false (fun e2 => e (by subst e2; rw [hx] at hy; exact Option.some.inj hy))]
   exact And.intro (Or.inr rfl) rfl
 ·have g : ¬ i < a.length:=by have : ¬ (i : Int) < (a.length : Int):=g; omega
  rw [List.take_of_length_le (by omega),List.take_of_length_le (by omega)] at ht
  rw [same_true ht]
  exact And.intro (Or.inr rfl) rfl
def Okc (c : List Ps) : Prop:=∀ p ∈ c,Okp p ∧ (p.length : Int) <= 9223372036854775807
theorem Okc.qd {c : List Ps} (h : Okc c) : QDc c:=fun p hp => ⟨fun r hr => by
 obtain ⟨n,d,rfl,_⟩:=(h p hp).1 r hr
 exact ⟨_,_,_,_,rfl,Dg.magD _,Dg.magD _⟩,(h p hp).2⟩
theorem paths_spec {a b : List Ps} (ha : Okc a) (hb : QDc b) (hl : (a.length : Int) <= 9223372036854775807) : Spec Tryz.prog [] 23 [pthv a,pthv b] (.bool (same a b)):=by
 have la : ((prow a).length : Int) = a.length:=by rw [prow_len]
 have lb : ((prow b).length : Int) = b.length:=by rw [prow_len]
 by_cases hn : a.length = b.length
 rotate_left
 ·have e1 : ((prow a).length : Int) ≠ ((prow b).length : Int):=by omega
  rw [same_false (fun e => hn (by rw [e]))]
  refine spec_fn T_ok mixed_ok 0 Tryz.func23 fn_ok23 (by kernel_rfl) ?_
  refine brN (fun _ => ?_) (fun g => absurd g e1)
  exact And.intro (Or.inr rfl) rfl
 have e1 : ((prow a).length : Int) = ((prow b).length : Int):=by omega
 refine spec_fn T_ok mixed_ok 0 Tryz.func23 fn_ok23 (by kernel_rfl) ?_
 refine brN (fun g => absurd e1 g) (fun _ => ?_)
 refine aw_loop (fun i : Nat => stOf [(0,pthv a),(1,pthv b),(5,.int .i64 (i : Int))] [] 0) (fun i => i <= a.length ∧ a.take i = b.take i) (fun i => a.length - i) 0 ⟨Nat.zero_le _,rfl⟩
  (le_by ⟨rfl,rfl,rfl,trivial⟩ trivial (Nat.le_refl _)) ?_
 rintro i ⟨hi,ht⟩ P hP
 refine br (fun g => ?_) (fun g => ?_)
 ·have g : i < a.length:=by have : (i : Int) < ((prow a).length : Int):=g; omega
  obtain ⟨x,hx⟩:=get_of g
  obtain ⟨y,hy⟩:=get_of (l:=b) (i:=i) (by omega)
  have c:=rsame_spec (ha x (List.mem_of_getElem? hx)).1 (hb y (List.mem_of_getElem? hy)).1 (ha x (List.mem_of_getElem? hx)).2
  refine And.intro (by kernel_rfl) ?_
  refine And.intro (Int.natCast_nonneg i) (Exists.intro _ (And.intro (prow_at hx) ?_))
  refine And.intro (Int.natCast_nonneg i) (Exists.intro _ (And.intro (prow_at hy) ?_))
  by_cases e : x = y
  ·rw [same_true e] at c
   first | refine Exists.intro _ (And.intro (c) ?_) | refine Hn_by (Exists.intro _ (And.intro (c) ?_))
   repeat (first | refine gT ?_ | refine gF ?_ | refine brT ?_ | refine brF ?_)
   refine hP (i + 1) _ ?_ ⟨g,take_eq_succ ht hx hy e⟩ (by omega)
   refine le_by ⟨rfl,rfl,int_eq ?_,trivial⟩ trivial (Nat.le_refl _)
   exact w64_succ g hl
  ·rw [same_false e] at c
   first | refine Exists.intro _ (And.intro (c) ?_) | refine Hn_by (Exists.intro _ (And.intro (c) ?_))
   repeat (first | refine gT ?_ | refine gF ?_ | refine brT ?_ | refine brF ?_)
   rw [same_false (fun e2 => e (by subst e2; rw [hx] at hy; exact Option.some.inj hy))]
   exact And.intro (Or.inr rfl) rfl
 ·have g : ¬ i < a.length:=by have : ¬ (i : Int) < ((prow a).length : Int):=g; omega
  rw [List.take_of_length_le (by omega),List.take_of_length_le (by omega)] at ht
  rw [same_true ht]
  exact And.intro (Or.inr rfl) rfl
end Ab
end
section
open Go Go.Proofs
namespace Ab
set_option maxRecDepth 100000
set_option maxHeartbeats 1000000
theorem ownInt_spec (neg : Bool) (l : List Int) (hl : l.length <= 1073741824) : Spec Tryz.prog [] 108 [mkI neg l] (mkI neg l):=by
 have ll : ((irows .u32 l).length : Int) = l.length:=by rw [irows_len]
 refine spec_fn T_ok mixed_ok 0 Tryz.func108 fn_ok108 (by kernel_rfl) ?_
 refine And.intro (show (0 : Int) <= ((irows .u32 l).length : Int) by omega) (And.intro (Int.le_refl _) (And.intro (show ((irows .u32 l).length : Int) * 4 <= 140737488355328 by omega) (And.intro (show ((irows .u32 l).length : Int) <= maxLen by simp only [maxLen]; omega) ?_)))
 refine And.intro (irows_ok _ _) ?_
 have e : ((irows .u32 l).length : Int).toNat = (irows .u32 l).length:=by omega
 refine And.intro (show 0 + ((irows .u32 l).length : Int).toNat <= (List.replicate ((irows .u32 l).length : Int).toNat [AV.int .u32 0]).length by rw [List.length_replicate]; omega) ?_
 refine And.intro (Or.inr rfl) ?_
 refine And.intro ?_ ?_
 ·simp
 ·refine congrArg (fun x => AV.agg [AV.bool neg,AV.sl x]) (?_ : _ = irows .u32 l)
  simp
theorem own_spec {r : List AV} (h : Qok r) : Spec Tryz.prog [] 76 [.agg r] (.agg r):=by
 obtain ⟨n,d,rfl,fn,fd,_⟩:=h
 have s1:=ownInt_spec (decide (n < 0)) (Dg.mag (az n)) (Nat.le_trans fn (by decide))
 have s2:=ownInt_spec (decide (d < 0)) (Dg.mag (az d)) (Nat.le_trans fd (by decide))
 refine spec_fn T_ok mixed_ok 0 Tryz.func76 fn_ok76 (by kernel_rfl) ?_
 refine And.intro (by kernel_rfl) ?_
 repeat (first | refine gT ?_ | refine gF ?_ | refine brT ?_ | refine brF ?_ | refine And.intro rfl ?_)
 first | refine Exists.intro _ (And.intro (s1) ?_) | refine Hn_by (Exists.intro _ (And.intro (s1) ?_))
 repeat (first | refine gT ?_ | refine gF ?_ | refine brT ?_ | refine brF ?_ | refine And.intro rfl ?_)
 first | refine Exists.intro _ (And.intro (s2) ?_) | refine Hn_by (Exists.intro _ (And.intro (s2) ?_))
 repeat (first | refine gT ?_ | refine gF ?_ | refine brT ?_ | refine brF ?_ | refine And.intro rfl ?_)
 exact And.intro (Or.inr rfl) rfl
def zr : List AV:=[.bool false,.sl [],.bool false,.sl []]
theorem fill_set {p : Ps} {i : Nat} {x : List AV} (h : p[i]? = some x) : (p.take i ++ List.replicate (p.length - i) zr).set i x = p.take (i + 1) ++ List.replicate (p.length - (i + 1)) zr:=by
 have g:=(List.getElem?_eq_some_iff.1 h).1
 have e : (p.take i).length = i:=by rw [List.length_take]; omega
 rw [List.set_append_right _ _ (by omega),e,Nat.sub_self,show p.length - i = (p.length - (i + 1)) + 1 by omega,List.replicate_succ,List.set_cons_zero,List.take_add_one,h]
 simp
theorem fill_at {p : Ps} {i : Nat} (g : i < p.length) : (p.take i ++ List.replicate (p.length - i) zr)[i]? = some zr:=by
 have e : (p.take i).length = i:=by rw [List.length_take]; omega
 rw [List.getElem?_append_right (by omega),e,Nat.sub_self,show p.length - i = (p.length - (i + 1)) + 1 by omega]
 rfl
theorem ownAll_spec {p : Ps} (h : Okp p) (hl : p.length <= 1073741824) : Spec Tryz.prog [] 48 [.sl p] (.sl p):=by
 refine spec_fn T_ok mixed_ok 0 Tryz.func48 fn_ok48 (by kernel_rfl) ?_
 refine And.intro (show (0 : Int) <= (p.length : Int) by omega) (And.intro (Int.le_refl _) (And.intro (show (p.length : Int) * 64 <= 140737488355328 by omega) (And.intro (show (p.length : Int) <= maxLen by simp only [maxLen]; omega) ?_)))
 refine aw_loop (fun i : Nat => stOf [(0,.sl p),(3,.ms 0 0 p.length),(9,.int .i64 (p.length : Int)),(10,.int .i64 (i : Int))] [(0,.arr (67,4) (p.take i ++ List.replicate (p.length - i) zr) true)] 1) (fun i => i <= p.length) (fun i => p.length - i) 0 (Nat.zero_le _)
  (le_by ⟨rfl,rfl,rfl,rfl,trivial⟩ ⟨rfl,trivial⟩ (Nat.le_refl _)) ?_
 intro i hi P hP
 refine br (fun g => ?_) (fun g => ?_)
 ·have g : i < p.length:=by have : (i : Int) < (p.length : Int):=g; omega
  obtain ⟨r,hr⟩:=get_of g
  have hq:=h r (List.mem_of_getElem? hr)
  have s:=own_spec hq
  obtain ⟨n,d,rfl,_⟩:=hq
  refine And.intro (Int.natCast_nonneg i) (Exists.intro _ (And.intro (nat_at hr) ?_))
  first | refine Exists.intro _ (And.intro (s) ?_) | refine Hn_by (Exists.intro _ (And.intro (s) ?_))
  refine And.intro (Int.natCast_nonneg i) (And.intro (show (i : Int) < (p.length : Int) by omega) ?_)
  refine Exists.intro zr (And.intro (show (p.take i ++ List.replicate (p.length - i) zr)[0 + (i : Int).toNat]? = some zr by rw [Nat.zero_add,Int.toNat_natCast]; exact fill_at g) ?_)
  refine hP (i + 1) _ ?_ g (by omega)
  refine le_by ⟨rfl,rfl,rfl,int_eq ?_,trivial⟩ ⟨?_,trivial⟩ (Nat.le_refl _)
  ·exact w64_succ g (by omega)
  ·show some (Blk.arr (67,4) ((p.take i ++ List.replicate (p.length - i) zr).set (0 + (i : Int).toNat) (qr n d)) true) = _
   rw [Nat.zero_add,Int.toNat_natCast,fill_set hr]
 ·have g : ¬ i < p.length:=by have : ¬ (i : Int) < (p.length : Int):=g; omega
  have e : i = p.length:=by omega
  subst e
  refine And.intro (Or.inr rfl) ?_
  refine And.intro (by simp) (congrArg AV.sl ?_)
  simp
end Ab
end
section
open Go Go.Proofs
namespace Ab
set_option maxRecDepth 100000
set_option maxHeartbeats 1000000
end Ab
end
section
open Go Go.Proofs
namespace Ab
set_option maxRecDepth 100000
set_option maxHeartbeats 1000000
end Ab
end
section
open Go Go.Proofs
namespace Ab
set_option maxRecDepth 100000
set_option maxHeartbeats 1000000
end Ab
end
