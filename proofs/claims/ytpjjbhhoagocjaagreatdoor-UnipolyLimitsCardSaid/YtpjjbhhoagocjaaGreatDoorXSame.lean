import Derived.Test.YtpjjbhhoagocjaaGreatDoorXQv
open Go Go.Proofs
namespace Ab
set_option maxRecDepth 100000
set_option maxHeartbeats 1000000
noncomputable def same {α : Type} (a b : α) : Bool:=@decide (a = b) (Classical.propDecidable _)
theorem same_true {α : Type} {a b : α} (h : a = b) : same a b = true:=@decide_eq_true _ (Classical.propDecidable _) h
theorem same_false {α : Type} {a b : α} (h : ¬ a = b) : same a b = false:=@decide_eq_false _ (Classical.propDecidable _) h
theorem same_iff {α : Type} {a b : α} : same a b = true ↔ a = b:=@decide_eq_true_iff _ (Classical.propDecidable _)
theorem same_of {α : Type} {a b : α} {c : Bool} (h : c = true ↔ a = b) : same a b = c:=by
 cases c with
 | true => exact same_true (h.1 rfl)
 | false => exact same_false fun e => by have:=h.2 e; cases this
theorem nat_at {α : Type} {l : List α} {i : Nat} {x : α} (h : l[i]? = some x) : l[((i : Int)).toNat]? = some x:=by rw [Int.toNat_natCast]; exact h
theorem take_eq_succ {α : Type} {l m : List α} {i : Nat} {x y : α} (h : l.take i = m.take i) (hx : l[i]? = some x) (hy : m[i]? = some y) (e : x = y) : l.take (i + 1) = m.take (i + 1):=by
 rw [List.take_add_one,List.take_add_one,h,hx,hy,e]
theorem prod_eq {a b c d : Bool} {l m l' m' : List Int} : ([.bool a,lim l,.bool b,lim m] : List AV) = [.bool c,lim l',.bool d,lim m'] ↔ (a,l) = (c,l')∧(b,m) = (d,m'):=by
 constructor
 ·intro h
  simp only [List.cons.injEq,AV.bool.injEq,AV.sl.injEq,and_true] at h
  obtain ⟨h1,h2,h3,h4⟩:=h
  rw [h1,h3,irows_inj h2,irows_inj h4]
  exact ⟨rfl,rfl⟩
 ·rintro ⟨h1,h2⟩
  rw [(Prod.mk.inj h1).1,(Prod.mk.inj h1).2,(Prod.mk.inj h2).1,(Prod.mk.inj h2).2]
theorem ints3_spec (gl : List (Nat × AV)) {na nb : Bool} {l m : List Int} (hl : (l.length : Int) <= 9223372036854775807) : Spec Tryz.prog gl 55 [mkI na l,mkI nb m] (.bool (same (na,l) (nb,m))):=by
 by_cases hb : na = nb
 ·subst hb
  by_cases hn : l.length = m.length
  ·have e1 : ((irows .u32 l).length : Int) = ((irows .u32 m).length : Int):=by rw [irows_len,irows_len,hn]
   have r : Spec Tryz.prog gl 55 [mkI na l,mkI na m] (.bool (same l m)):=by
    cases na <;>
    ·refine spec_fn T_ok mixed_ok 0 Tryz.func55 fn_ok55 (by kernel_rfl) ?_
     repeat (first | refine gT ?_ | refine gF ?_ | refine brT ?_ | refine brF ?_)
     refine brN (fun g => absurd e1 g) (fun _ => ?_)
     refine aw_loop (fun i : Nat => stOf [(2,.bp 0 0),(3,.bp 1 0),(5,.int .i64 (i : Int))] [(0,.box [.bool _,lim l]),(1,.box [.bool _,lim m])] 2) (fun i => i <= l.length∧l.take i = m.take i) (fun i => l.length - i) 0 ⟨Nat.zero_le _,rfl⟩
      (le_by ⟨rfl,rfl,rfl,trivial⟩ ⟨rfl,rfl,trivial⟩ (Nat.le_refl _)) ?_
     rintro i ⟨hi,ht⟩ P hP
     refine br (fun g => ?_) (fun g => ?_)
     ·have g : i < l.length:=by
       have : (i : Int) < ((irows .u32 l).length : Int):=g
       rw [irows_len] at this; omega
      have hx : l[i]? = some l[i]:=List.getElem?_eq_getElem g
      have hy : m[i]? = some m[i]:=List.getElem?_eq_getElem (by omega)
      refine And.intro (by kernel_rfl) ?_
      refine And.intro (Int.natCast_nonneg i) (Exists.intro _ (And.intro (nat_at (irows_at hx)) ?_))
      refine And.intro (Int.natCast_nonneg i) (Exists.intro _ (And.intro (nat_at (irows_at hy)) ?_))
      refine brN (fun e => ?_) (fun e => ?_)
      ·rw [same_false (fun e2 => e (by subst e2; rfl))]
       exact And.intro (Or.inr rfl) rfl
      ·refine hP (i + 1) _ ?_ ⟨g,take_eq_succ ht hx hy e⟩ (by omega)
       refine le_by ⟨rfl,rfl,int_eq ?_,trivial⟩ ⟨rfl,rfl,trivial⟩ (Nat.le_refl _)
       have : w64 ((i : Int) + 1) = ((i + 1 : Nat) : Int):=by rw [w64_eq (by omega)]; omega
       exact this
     ·have g : ¬ i < l.length:=by
       have : ¬ (i : Int) < ((irows .u32 l).length : Int):=g
       rw [irows_len] at this; omega
      rw [List.take_of_length_le (by omega),List.take_of_length_le (by omega)] at ht
      rw [same_true ht]
      exact And.intro (Or.inr rfl) rfl
   rw [show same (na,l) (na,m) = same l m from same_of (by rw [same_iff]; simp)]
   exact r
  ·have e1 : ((irows .u32 l).length : Int) ≠ ((irows .u32 m).length : Int):=by rw [irows_len,irows_len]; omega
   rw [same_false (fun e => hn (by rw [(Prod.mk.inj e).2]))]
   cases na <;>
   ·refine spec_fn T_ok mixed_ok 0 Tryz.func55 fn_ok55 (by kernel_rfl) ?_
    repeat (first | refine gT ?_ | refine gF ?_ | refine brT ?_ | refine brF ?_)
    refine brN (fun _ => ?_) (fun g => absurd g e1)
    exact And.intro (Or.inr rfl) rfl
 ·rw [same_false (fun e => hb (Prod.mk.inj e).1)]
  cases na <;> cases nb <;> first
  | exact absurd rfl hb
  | refine spec_fn T_ok mixed_ok 0 Tryz.func55 fn_ok55 (by kernel_rfl) ?_
    repeat (first | refine gT ?_ | refine gF ?_ | refine brT ?_ | refine brF ?_)
    exact And.intro (Or.inr rfl) rfl
theorem same3_spec (gl : List (Nat × AV)) {a b c d : Bool} {l m l' m' : List Int} (h1 : (l.length : Int) <= 9223372036854775807) (h2 : (m.length : Int) <= 9223372036854775807) :
  Spec Tryz.prog gl 18 [mkQ a l b m,mkQ c l' d m'] (.bool (same ([.bool a,lim l,.bool b,lim m] : List AV) [.bool c,lim l',.bool d,lim m'])):=by
 have s1:=ints3_spec gl (na:=a) (nb:=c) (l:=l) (m:=l') h1
 have s2:=ints3_spec gl (na:=b) (nb:=d) (l:=m) (m:=m') h2
 by_cases e1 : (a,l) = (c,l')
 ·rw [show same ([.bool a,lim l,.bool b,lim m] : List AV) [.bool c,lim l',.bool d,lim m'] = same (b,m) (d,m') from same_of (by rw [same_iff,prod_eq]; simp [e1])]
  rw [same_true e1] at s1
  refine spec_fn T_ok mixed_ok 0 Tryz.func18 fn_ok18 (by kernel_rfl) ?_
  first | refine Exists.intro _ (And.intro (s1) ?_) | refine Hn_by (Exists.intro _ (And.intro (s1) ?_))
  first | refine Exists.intro _ (And.intro (s2) ?_) | refine Hn_by (Exists.intro _ (And.intro (s2) ?_))
  repeat (first | refine gT ?_ | refine gF ?_ | refine brT ?_ | refine brF ?_)
  exact And.intro (Or.inr rfl) rfl
 ·rw [same_false (fun e => e1 (prod_eq.1 e).1)]
  rw [same_false e1] at s1
  refine spec_fn T_ok mixed_ok 0 Tryz.func18 fn_ok18 (by kernel_rfl) ?_
  first | refine Exists.intro _ (And.intro (s1) ?_) | refine Hn_by (Exists.intro _ (And.intro (s1) ?_))
  first | refine Exists.intro _ (And.intro (s2) ?_) | refine Hn_by (Exists.intro _ (And.intro (s2) ?_))
  repeat (first | refine gT ?_ | refine gF ?_ | refine brT ?_ | refine brF ?_)
  exact And.intro (Or.inr rfl) rfl
end Ab
