import Derived.Test.YtinhfpljdjlomaaGreatXCmpQ
import Derived.Test.YtinhfpljdjlomaaGreatXExactP
open Go Go.Proofs
namespace Ab
set_option maxRecDepth 100000
set_option maxHeartbeats 1000000
abbrev Ps:=List (List AV)
def QDs (p : Ps) : Prop:=∀ r ∈ p,QD r
theorem at_nat {α : Type} {l : List α} {i : Nat} {x : α} (h : l[i]? = some x) : l[((i : Int)).toNat]? = some x:=by rw [Int.toNat_natCast]; exact h
theorem all_succ {α : Type} {f : α -> Bool} {l : List α} {i : Nat} {x : α} (h : l[i]? = some x) : (l.take (i + 1)).all f = ((l.take i).all f && f x):=by
 rw [List.take_add_one,h]
 simp
theorem get_of {α : Type} {l : List α} {i : Nat} (h : i < l.length) : ∃ x,l[i]? = some x:=⟨l[i],List.getElem?_eq_getElem h⟩
theorem all_false {α : Type} {f : α -> Bool} {l : List α} {i : Nat} {x : α} (h : l[i]? = some x) (hf : f x = false) : l.all f = false:=by
 rw [List.all_eq_false]
 exact ⟨x,List.mem_of_getElem? h,by simp [hf]⟩
theorem w64_succ {i n : Nat} (h : i < n) (hn : (n : Int) <= 9223372036854775807) : w64 ((i : Int) + 1) = ((i + 1 : Nat) : Int):=by rw [w64_eq (by omega)]; omega
theorem pvalid_spec {p : Ps} {n : Int} (h : QDs p) (hl : (p.length : Int) <= 9223372036854775807) : Spec Tryz.prog [] 43 [.sl p,.int .i64 n] (.bool (p.all qB && ((p.length : Int) == n))):=by
  refine spec_fn T_ok mixed_ok 0 Tryz.func43 fn_ok43 (by kernel_rfl) ?_
  refine aw_loopN 0 (fun i : Nat => stOf [(0,.sl p),(1,.int .i64 n),(7,.sl p),(8,.int .i64 (p.length : Int)),(9,.int .i64 (i : Int))] [] 0) (fun i => i <= p.length ∧ (p.take i).all qB = true) (fun i => p.length - i) 0 ⟨Nat.zero_le _,rfl⟩
   (.inl (le_by ⟨rfl,rfl,rfl,rfl,rfl,trivial⟩ trivial (Nat.le_refl _))) (by kernel_rfl) ?_
  rintro i ⟨hi,hall⟩ P hP
  refine br (fun g => ?_) (fun g => ?_)
  ·have g : i < p.length:=by have : (i : Int) < (p.length : Int):=g; omega
   obtain ⟨r,hr⟩:=get_of g
   obtain ⟨nn,nl,dn,dl,rfl,_,_⟩:=h r (List.mem_of_getElem? hr)
   have v:=((fun h => (qvalid_tot [] h).1) (h _ (List.mem_of_getElem? hr)))
   refine And.intro (Int.natCast_nonneg i) (Exists.intro _ (And.intro (at_nat hr) ?_))
   cases hb : qB [.bool nn,lim nl,.bool dn,lim dl] with
   | true =>
    rw [hb] at v
    first | refine Exists.intro _ (And.intro (v) ?_) | refine Hn_by (Exists.intro _ (And.intro (v) ?_))
    repeat (first | refine gT ?_ | refine gF ?_ | refine brT ?_ | refine brF ?_)
    refine hP (i + 1) _ ?_ ⟨g,by rw [all_succ hr,hall,hb]; rfl⟩ (by omega)
    refine leC_by ⟨⟨rfl,rfl⟩,⟨rfl,rfl⟩,⟨rfl,rfl⟩,⟨rfl,rfl⟩,⟨int_eq ?_,rfl⟩,trivial⟩ trivial (Nat.le_refl _)
    exact w64_succ g hl
   | false =>
    rw [hb] at v
    first | refine Exists.intro _ (And.intro (v) ?_) | refine Hn_by (Exists.intro _ (And.intro (v) ?_))
    repeat (first | refine gT ?_ | refine gF ?_ | refine brT ?_ | refine brF ?_)
    rw [all_false hr hb]
    exact And.intro (Or.inr rfl) rfl
  ·have g : ¬ i < p.length:=by have : ¬ (i : Int) < (p.length : Int):=g; omega
   have e : i = p.length:=by omega
   subst e
   rw [List.take_length] at hall
   rw [hall]
   exact And.intro (Or.inr rfl) rfl
theorem position_spec {p : Ps} {n : Int} (h : QDs p) (hl : (p.length : Int) <= 9223372036854775807) : Spec Tryz.prog [] 51 [.sl p,.int .i64 n] (.bool (p.all qB && ((p.length : Int) == n))):=by
  refine spec_fn T_ok mixed_ok 0 Tryz.func51 fn_ok51 (by kernel_rfl) ?_
  refine aw_loopN 0 (fun i : Nat => stOf [(0,.sl p),(1,.int .i64 n),(5,.int .i64 (i : Int))] [] 0) (fun i => i <= p.length ∧ (p.take i).all qB = true) (fun i => p.length - i) 0 ⟨Nat.zero_le _,rfl⟩
   (.inl (le_by ⟨rfl,rfl,rfl,trivial⟩ trivial (Nat.le_refl _))) (by kernel_rfl) ?_
  rintro i ⟨hi,hall⟩ P hP
  refine br (fun g => ?_) (fun g => ?_)
  ·have g : i < p.length:=by have : (i : Int) < (p.length : Int):=g; omega
   obtain ⟨r,hr⟩:=get_of g
   obtain ⟨nn,nl,dn,dl,rfl,_,_⟩:=h r (List.mem_of_getElem? hr)
   have v:=((fun h => (qvalid_tot [] h).2) (h _ (List.mem_of_getElem? hr)))
   refine And.intro (Int.natCast_nonneg i) (Exists.intro _ (And.intro (at_nat hr) ?_))
   cases hb : qB [.bool nn,lim nl,.bool dn,lim dl] with
   | true =>
    rw [hb] at v
    first | refine Exists.intro _ (And.intro (v) ?_) | refine Hn_by (Exists.intro _ (And.intro (v) ?_))
    repeat (first | refine gT ?_ | refine gF ?_ | refine brT ?_ | refine brF ?_)
    refine hP (i + 1) _ ?_ ⟨g,by rw [all_succ hr,hall,hb]; rfl⟩ (by omega)
    refine leC_by ⟨⟨rfl,rfl⟩,⟨rfl,rfl⟩,⟨int_eq ?_,rfl⟩,trivial⟩ trivial (Nat.le_refl _)
    exact w64_succ g hl
   | false =>
    rw [hb] at v
    first | refine Exists.intro _ (And.intro (v) ?_) | refine Hn_by (Exists.intro _ (And.intro (v) ?_))
    repeat (first | refine gT ?_ | refine gF ?_ | refine brT ?_ | refine brF ?_)
    rw [all_false hr hb]
    exact And.intro (Or.inr rfl) rfl
  ·have g : ¬ i < p.length:=by have : ¬ (i : Int) < (p.length : Int):=g; omega
   have e : i = p.length:=by omega
   subst e
   rw [List.take_length] at hall
   rw [hall]
   exact And.intro (Or.inr rfl) rfl
end Ab
