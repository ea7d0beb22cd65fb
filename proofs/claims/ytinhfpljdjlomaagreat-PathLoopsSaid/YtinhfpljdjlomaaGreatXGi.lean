import Derived.Test.YtinhfpljdjlomaaGreatXCmpQ
import Derived.Test.YtinhfpljdjlomaaGreatXExactP
import Derived.Test.YtinhfpljdjlomaaGreatXSame
section
open Go Go.Proofs
namespace Ab
set_option maxRecDepth 100000
set_option maxHeartbeats 1000000
abbrev Ps:=List (List AV)
def QDs (p : Ps) : Prop:=∀ r ∈ p,QD r
def prow (c : List Ps) : List (List AV):=c.map fun p => [AV.sl p]
abbrev pthv (c : List Ps) : AV:=.sl (prow c)
theorem prow_len (c : List Ps) : (prow c).length = c.length:=by simp [prow]
theorem prow_at {c : List Ps} {i : Nat} {p : Ps} (h : c[i]? = some p) : (prow c)[((i : Int)).toNat]? = some [AV.sl p]:=by rw [Int.toNat_natCast]; simp [prow,h]
theorem at_nat {α : Type} {l : List α} {i : Nat} {x : α} (h : l[i]? = some x) : l[((i : Int)).toNat]? = some x:=by rw [Int.toNat_natCast]; exact h
theorem all_succ {α : Type} {f : α -> Bool} {l : List α} {i : Nat} {x : α} (h : l[i]? = some x) : (l.take (i + 1)).all f = ((l.take i).all f && f x):=by
 rw [List.take_add_one,h]
 simp
theorem get_of {α : Type} {l : List α} {i : Nat} (h : i < l.length) : ∃ x,l[i]? = some x:=⟨l[i],List.getElem?_eq_getElem h⟩
theorem all_false {α : Type} {f : α -> Bool} {l : List α} {i : Nat} {x : α} (h : l[i]? = some x) (hf : f x = false) : l.all f = false:=by
 rw [List.all_eq_false]
 exact ⟨x,List.mem_of_getElem? h,by simp [hf]⟩
theorem w64_succ {i n : Nat} (h : i < n) (hn : (n : Int) <= 9223372036854775807) : w64 ((i : Int) + 1) = ((i + 1 : Nat) : Int):=by rw [w64_eq (by omega)]; omega
theorem pvalid_spec {p : Ps} {n : Int} (h : QDs p) (hl : (p.length : Int) <= 9223372036854775807) : Spec Tryz.prog [] 43 [.sl p,.int .i64 n] (.bool (p.all qB && ((p.length : Int) == n))):=by
  refine spec_fn T_ok mixed_ok 0 Tryz.func43 fn_ok43 (by kernel_rfl) ?_
  refine aw_loopN 0 (fun i : Nat => stOf [(0,.sl p),(1,.int .i64 n),(7,.sl p),(8,.int .i64 (p.length : Int)),(9,.int .i64 (i : Int))] [] 0) (fun i => i <= p.length ∧ (p.take i).all qB = true) (fun i => p.length - i) 0 ⟨Nat.zero_le _,rfl⟩
   (.inl (le_by ⟨rfl,rfl,rfl,rfl,rfl,trivial⟩ trivial (Nat.le_refl _))) (by kernel_rfl) ?_
  rintro i ⟨hi,hall⟩ P hP
  refine br (fun g => ?_) (fun g => ?_)
  ·have g : i < p.length:=by have : (i : Int) < (p.length : Int):=g; omega
   obtain ⟨r,hr⟩:=get_of g
   obtain ⟨nn,nl,dn,dl,rfl,_,_⟩:=h r (List.mem_of_getElem? hr)
   have v:=((fun h => (qvalid_tot [] h).1) (h _ (List.mem_of_getElem? hr)))
   refine And.intro (Int.natCast_nonneg i) (Exists.intro _ (And.intro (at_nat hr) ?_))
   cases hb : qB [.bool nn,lim nl,.bool dn,lim dl] with
   | true =>
    rw [hb] at v
    first | refine Exists.intro _ (And.intro (v) ?_) | refine Hn_by (Exists.intro _ (And.intro (v) ?_))
    repeat (first | refine gT ?_ | refine gF ?_ | refine brT ?_ | refine brF ?_)
    refine hP (i + 1) _ ?_ ⟨g,by rw [all_succ hr,hall,hb]; rfl⟩ (by omega)
    refine leC_by ⟨⟨rfl,rfl⟩,⟨rfl,rfl⟩,⟨rfl,rfl⟩,⟨rfl,rfl⟩,⟨int_eq ?_,rfl⟩,trivial⟩ trivial (Nat.le_refl _)
    exact w64_succ g hl
   | false =>
    rw [hb] at v
    first | refine Exists.intro _ (And.intro (v) ?_) | refine Hn_by (Exists.intro _ (And.intro (v) ?_))
    repeat (first | refine gT ?_ | refine gF ?_ | refine brT ?_ | refine brF ?_)
    rw [all_false hr hb]
    exact And.intro (Or.inr rfl) rfl
  ·have g : ¬ i < p.length:=by have : ¬ (i : Int) < (p.length : Int):=g; omega
   have e : i = p.length:=by omega
   subst e
   rw [List.take_length] at hall
   rw [hall]
   exact And.intro (Or.inr rfl) rfl
end Ab
end
section
open Go Go.Proofs
namespace Ab
set_option maxRecDepth 100000
set_option maxHeartbeats 1000000
def QDc (c : List Ps) : Prop:=∀ p ∈ c,QDs p ∧ (p.length : Int) <= 9223372036854775807
noncomputable def posB (n : Int) (p : Ps) : Bool:=p.all qB && ((p.length : Int) == n)
noncomputable def chkF (c : List Ps) (n : Int) : Int:=if n < 0 ∨ n > 20 then 1 else if (c.length : Int) < 1 ∨ (c.length : Int) > 24 then 170 else if c.all (posB n) = true then 0 else 170
theorem check_spec {c : List Ps} {n : Int} (h : QDc c) : Spec Tryz.prog [] 29 [pthv c,.int .i64 n] (.int .i64 (chkF c n)):=by
  have lp : ((prow c).length : Int) = c.length:=by rw [prow_len]
  by_cases h1 : n < 0
  ·rw [show chkF c n = 1 by unfold chkF; rw [if_pos (.inl h1)]]
   refine spec_fn T_ok mixed_ok 0 Tryz.func29 fn_ok29 (by kernel_rfl) ?_
   refine gr (fun _ => ?_) (fun g => absurd h1 g)
   repeat (first | refine gT ?_ | refine gF ?_ | refine brT ?_ | refine brF ?_)
   exact And.intro (Or.inr rfl) rfl
  by_cases h2 : n > 20
  ·rw [show chkF c n = 1 by unfold chkF; rw [if_pos (.inr h2)]]
   refine spec_fn T_ok mixed_ok 0 Tryz.func29 fn_ok29 (by kernel_rfl) ?_
   refine gr (fun g => absurd g h1) (fun _ => ?_)
   repeat (first | refine gT ?_ | refine gF ?_ | refine brT ?_ | refine brF ?_)
   refine br (fun _ => ?_) (fun g => absurd h2 g)
   exact And.intro (Or.inr rfl) rfl
  by_cases h3 : (c.length : Int) < 1
  ·rw [show chkF c n = 170 by unfold chkF; rw [if_neg (by omega),if_pos (.inl h3)]]
   refine spec_fn T_ok mixed_ok 0 Tryz.func29 fn_ok29 (by kernel_rfl) ?_
   refine gr (fun g => absurd g h1) (fun _ => ?_)
   repeat (first | refine gT ?_ | refine gF ?_ | refine brT ?_ | refine brF ?_)
   refine br (fun g => absurd g h2) (fun _ => ?_)
   refine gr (fun _ => ?_) (fun g => absurd (show ((prow c).length : Int) < 1 by omega) g)
   repeat (first | refine gT ?_ | refine gF ?_ | refine brT ?_ | refine brF ?_)
   exact And.intro (Or.inr rfl) rfl
  by_cases h4 : (c.length : Int) > 24
  ·rw [show chkF c n = 170 by unfold chkF; rw [if_neg (by omega),if_pos (.inr h4)]]
   refine spec_fn T_ok mixed_ok 0 Tryz.func29 fn_ok29 (by kernel_rfl) ?_
   refine gr (fun g => absurd g h1) (fun _ => ?_)
   repeat (first | refine gT ?_ | refine gF ?_ | refine brT ?_ | refine brF ?_)
   refine br (fun g => absurd g h2) (fun _ => ?_)
   refine gr (fun g => absurd (show (c.length : Int) < 1 by rw [<- lp]; exact g) h3) (fun _ => ?_)
   repeat (first | refine gT ?_ | refine gF ?_ | refine brT ?_ | refine brF ?_)
   refine br (fun _ => ?_) (fun g => absurd (show ((prow c).length : Int) > 24 by omega) g)
   exact And.intro (Or.inr rfl) rfl
  refine spec_fn T_ok mixed_ok 0 Tryz.func29 fn_ok29 (by kernel_rfl) ?_
  refine gr (fun g => absurd g h1) (fun _ => ?_)
  repeat (first | refine gT ?_ | refine gF ?_ | refine brT ?_ | refine brF ?_)
  refine br (fun g => absurd g h2) (fun _ => ?_)
  refine gr (fun g => absurd (show (c.length : Int) < 1 by rw [<- lp]; exact g) h3) (fun _ => ?_)
  repeat (first | refine gT ?_ | refine gF ?_ | refine brT ?_ | refine brF ?_)
  refine br (fun g => absurd (show (c.length : Int) > 24 by rw [<- lp]; exact g) h4) (fun _ => ?_)
  refine aw_loopN 0 (fun i : Nat => stOf [(0,pthv c),(1,.int .i64 n),(21,pthv c),(22,.int .i64 ((prow c).length : Int)),(23,.int .i64 (i : Int))] [] 0) (fun i => i <= c.length ∧ (c.take i).all (posB n) = true) (fun i => c.length - i) 0 ⟨Nat.zero_le _,rfl⟩
   (.inl (le_by ⟨rfl,rfl,rfl,rfl,rfl,trivial⟩ trivial (Nat.le_refl _))) (by kernel_rfl) ?_
  rintro i ⟨hi,hall⟩ P hP
  refine br (fun g => ?_) (fun g => ?_)
  ·have g : i < c.length:=by have : (i : Int) < ((prow c).length : Int):=g; omega
   obtain ⟨p,hp⟩:=get_of g
   obtain ⟨h5,h6⟩:=h p (List.mem_of_getElem? hp)
   have v:=pvalid_spec (n:=n) h5 h6
   refine And.intro (Int.natCast_nonneg i) (Exists.intro _ (And.intro (prow_at hp) ?_))
   rw [show (p.all qB && ((p.length : Int) == n)) = posB n p from rfl] at v
   cases hb : posB n p with
   | true =>
    rw [hb] at v
    first | refine Exists.intro _ (And.intro (v) ?_) | refine Hn_by (Exists.intro _ (And.intro (v) ?_))
    repeat (first | refine gT ?_ | refine gF ?_ | refine brT ?_ | refine brF ?_)
    refine hP (i + 1) _ ?_ ⟨g,by rw [all_succ hp,hall,hb]; rfl⟩ (by omega)
    refine .inl (le_by ⟨rfl,rfl,rfl,rfl,int_eq ?_,trivial⟩ trivial (Nat.le_refl _))
    exact w64_succ g (by omega)
   | false =>
    rw [hb] at v
    first | refine Exists.intro _ (And.intro (v) ?_) | refine Hn_by (Exists.intro _ (And.intro (v) ?_))
    repeat (first | refine gT ?_ | refine gF ?_ | refine brT ?_ | refine brF ?_)
    refine And.intro (Or.inr rfl) (int_eq ?_)
    unfold chkF
    rw [if_neg (by omega),if_neg (by omega),if_neg (by rw [all_false hp hb]; decide)]
  ·have g : ¬ i < c.length:=by have : ¬ (i : Int) < ((prow c).length : Int):=g; omega
   have e : i = c.length:=by omega
   subst e
   rw [List.take_length] at hall
   refine And.intro (Or.inr rfl) (int_eq ?_)
   unfold chkF
   rw [if_neg (by omega),if_neg (by omega),if_pos hall]
noncomputable def pathB : List Ps -> Bool
 | [] => false
 | p :: c => chkF (p :: c) (p.length : Int) == 0
theorem isPath_spec {c : List Ps} (h : QDc c) : Spec Tryz.prog [] 56 [pthv c] (.bool (pathB c)):=by
  match c with
  | [] =>
   refine spec_fn T_ok mixed_ok 0 Tryz.func56 fn_ok56 (by kernel_rfl) ?_
   repeat (first | refine gT ?_ | refine gF ?_ | refine brT ?_ | refine brF ?_)
   exact And.intro (Or.inr rfl) rfl
  | p :: c =>
   have v:=check_spec (n:=(p.length : Int)) h
   have hw : decide (((prow (p :: c)).length : Int) > 0) = true:=decide_eq_true (by rw [prow_len,List.length_cons]; omega)
   refine spec_fn T_ok mixed_ok 0 Tryz.func56 fn_ok56 (by kernel_rfl) ?_
   refine And.intro (fun _ => ?_) (fun e => absurd (hw.symm.trans e) (by decide))
   repeat (first | refine gT ?_ | refine gF ?_ | refine brT ?_ | refine brF ?_)
   refine And.intro (Int.le_refl 0) (Exists.intro _ (And.intro rfl ?_))
   repeat (first | refine gT ?_ | refine gF ?_ | refine brT ?_ | refine brF ?_)
   first | refine Exists.intro _ (And.intro (v) ?_) | refine Hn_by (Exists.intro _ (And.intro (v) ?_))
   repeat (first | refine gT ?_ | refine gF ?_ | refine brT ?_ | refine brF ?_)
   exact And.intro (Or.inr rfl) rfl
theorem pathB_iff {c : List Ps} : pathB c = true ↔ ∃ n : Nat,n <= 20 ∧ (0 < c.length ∧ c.length <= 24) ∧ ∀ p ∈ c,p.length = n ∧ ∀ r ∈ p,Qok r:=by
 have hpos : ∀ {n : Int} {p : Ps},posB n p = true ↔ (p.length : Int) = n ∧ ∀ r ∈ p,Qok r:=by
  intro n p
  unfold posB
  rw [Bool.and_eq_true,List.all_eq_true,beq_iff_eq]
  constructor
  ·rintro ⟨a,b⟩; exact ⟨b,fun r hr => qB_iff.1 (a r hr)⟩
  ·rintro ⟨a,b⟩; exact ⟨fun r hr => qB_iff.2 (b r hr),a⟩
 cases c with
 | nil =>
  constructor
  ·intro h; cases h
  ·rintro ⟨n,_,⟨h,_⟩,_⟩; cases h
 | cons p c =>
  unfold pathB chkF
  rw [beq_iff_eq]
  constructor
  ·intro h
   split at h
   ·cases h
   ·split at h
    ·cases h
    ·split at h
     ·rename_i h1 h2 h3
      rw [List.all_eq_true] at h3
      refine ⟨p.length,by omega,⟨by omega,by omega⟩,fun q hq => ?_⟩
      obtain ⟨a,b⟩:=hpos.1 (h3 q hq)
      exact ⟨by omega,b⟩
     ·cases h
  ·rintro ⟨n,h1,⟨h2,h3⟩,h4⟩
   have e:=(h4 p (by simp)).1
   rw [if_neg (by omega),if_neg (by omega),if_pos]
   rw [List.all_eq_true]
   intro q hq
   obtain ⟨a,b⟩:=h4 q hq
   exact hpos.2 ⟨by omega,b⟩
end Ab
end
section
open Go Go.Proofs
namespace Ab
set_option maxRecDepth 100000
set_option maxHeartbeats 1000000
def Okp (p : Ps) : Prop:=∀ r ∈ p,Qok r
theorem psame_spec {a b : Ps} (ha : Okp a) (hb : Okp b) (hl : (a.length : Int) <= 9223372036854775807) : Spec Tryz.prog [] 58 [.sl a,.sl b] (.bool (same a b)):=by
 by_cases hn : a.length = b.length
 rotate_left
 ·have e1 : (a.length : Int) ≠ (b.length : Int):=by omega
  rw [same_false (fun e => hn (by rw [e]))]
  refine spec_fn T_ok mixed_ok 0 Tryz.func58 fn_ok58 (by kernel_rfl) ?_
  refine brN (fun _ => ?_) (fun g => absurd g e1)
  exact And.intro (Or.inr rfl) rfl
 have e1 : (a.length : Int) = (b.length : Int):=by omega
 refine spec_fn T_ok mixed_ok 0 Tryz.func58 fn_ok58 (by kernel_rfl) ?_
 refine brN (fun g => absurd e1 g) (fun _ => ?_)
 refine aw_loop (fun i : Nat => stOf [(0,.sl a),(1,.sl b),(13,.sl a),(14,.int .i64 (a.length : Int)),(15,.int .i64 (i : Int))] [] 0) (fun i => i <= a.length ∧ a.take i = b.take i) (fun i => a.length - i) 0 ⟨Nat.zero_le _,rfl⟩
  (le_by ⟨rfl,rfl,rfl,rfl,rfl,trivial⟩ trivial (Nat.le_refl _)) ?_
 rintro i ⟨hi,ht⟩ P hP
 refine br (fun g => ?_) (fun g => ?_)
 ·have g : i < a.length:=by have : (i : Int) < (a.length : Int):=g; omega
  obtain ⟨x,hx⟩:=get_of g
  obtain ⟨y,hy⟩:=get_of (l:=b) (i:=i) (by omega)
  obtain ⟨n,d,rfl,q1⟩:=ha x (List.mem_of_getElem? hx)
  obtain ⟨m,f,rfl,q2⟩:=hb y (List.mem_of_getElem? hy)
  have c:=ratcmp_int [] q1 q2
  refine And.intro (by kernel_rfl) ?_
  refine And.intro (Int.natCast_nonneg i) (Exists.intro _ (And.intro (nat_at hx) ?_))
  refine And.intro (Int.natCast_nonneg i) (Exists.intro _ (And.intro (nat_at hy) ?_))
  first | refine Exists.intro _ (And.intro (c) ?_) | refine Hn_by (Exists.intro _ (And.intro (c) ?_))
  refine brN (fun e => ?_) (fun e => ?_)
  ·rw [same_false (fun e2 => e ((cmp_same q1 q2).2 (by subst e2; rw [hx] at hy; exact Option.some.inj hy)))]
   exact And.intro (Or.inr rfl) rfl
  ·refine hP (i + 1) _ ?_ ⟨g,take_eq_succ ht hx hy ((cmp_same q1 q2).1 e)⟩ (by omega)
   refine le_by ⟨rfl,rfl,rfl,rfl,int_eq ?_,trivial⟩ trivial (Nat.le_refl _)
   exact w64_succ g hl
 ·have g : ¬ i < a.length:=by have : ¬ (i : Int) < (a.length : Int):=g; omega
  rw [List.take_of_length_le (by omega),List.take_of_length_le (by omega)] at ht
  rw [same_true ht]
  exact And.intro (Or.inr rfl) rfl
theorem mag_len {z : Int} (h : Fits z) : ((Dg.mag (az z)).length : Int) <= 9223372036854775807:=by unfold Fits at h; omega
theorem rsame_spec {a b : Ps} (ha : Okp a) (hb : QDs b) (hl : (a.length : Int) <= 9223372036854775807) : Spec Tryz.prog [] 55 [.sl a,.sl b] (.bool (same a b)):=by
 by_cases hn : a.length = b.length
 rotate_left
 ·have e1 : (a.length : Int) ≠ (b.length : Int):=by omega
  rw [same_false (fun e => hn (by rw [e]))]
  refine spec_fn T_ok mixed_ok 0 Tryz.func55 fn_ok55 (by kernel_rfl) ?_
  refine brN (fun _ => ?_) (fun g => absurd g e1)
  exact And.intro (Or.inr rfl) rfl
 have e1 : (a.length : Int) = (b.length : Int):=by omega
 refine spec_fn T_ok mixed_ok 0 Tryz.func55 fn_ok55 (by kernel_rfl) ?_
 refine brN (fun g => absurd e1 g) (fun _ => ?_)
 refine aw_loop (fun i : Nat => stOf [(0,.sl a),(1,.sl b),(5,.int .i64 (i : Int))] [] 0) (fun i => i <= a.length ∧ a.take i = b.take i) (fun i => a.length - i) 0 ⟨Nat.zero_le _,rfl⟩
  (le_by ⟨rfl,rfl,rfl,trivial⟩ trivial (Nat.le_refl _)) ?_
 rintro i ⟨hi,ht⟩ P hP
 refine br (fun g => ?_) (fun g => ?_)
 ·have g : i < a.length:=by have : (i : Int) < (a.length : Int):=g; omega
  obtain ⟨x,hx⟩:=get_of g
  obtain ⟨y,hy⟩:=get_of (l:=b) (i:=i) (by omega)
  obtain ⟨n,d,rfl,q1⟩:=ha x (List.mem_of_getElem? hx)
  obtain ⟨nn,nl,dn,dl,rfl,_,_⟩:=hb y (List.mem_of_getElem? hy)
  have c:=same2_spec [] (a:=decide (n < 0)) (l:=Dg.mag (az n)) (b:=decide (d < 0)) (m:=Dg.mag (az d)) (c:=nn) (l':=nl) (d:=dn) (m':=dl) (mag_len q1.1) (mag_len q1.2.1)
  refine And.intro (by kernel_rfl) ?_
  refine And.intro (Int.natCast_nonneg i) (Exists.intro _ (And.intro (nat_at hx) ?_))
  refine And.intro (Int.natCast_nonneg i) (Exists.intro _ (And.intro (nat_at hy) ?_))
  by_cases e : (qr n d) = [.bool nn,lim nl,.bool dn,lim dl]
  ·rw [same_true e] at c
   first | refine Exists.intro _ (And.intro (c) ?_) | refine Hn_by (Exists.intro _ (And.intro (c) ?_))
   repeat (first | refine gT ?_ | refine gF ?_ | refine brT ?_ | refine brF ?_)
   refine hP (i + 1) _ ?_ ⟨g,take_eq_succ ht hx hy e⟩ (by omega)
   refine le_by ⟨rfl,rfl,int_eq ?_,trivial⟩ trivial (Nat.le_refl _)
   exact w64_succ g hl
  ·rw [same_false e] at c
   first | refine Exists.intro _ (And.intro (c) ?_) | refine Hn_by (Exists.intro _ (And.intro (c) ?_))
   repeat (first | refine gT ?_ | refine gF ?_ | refine brT ?_ | refine brF ?_)
   rw [same_false (fun e2 => e (by subst e2; rw [hx] at hy; exact Option.some.inj hy))]
   exact And.intro (Or.inr rfl) rfl
 ·have g : ¬ i < a.length:=by have : ¬ (i : Int) < (a.length : Int):=g; omega
  rw [List.take_of_length_le (by omega),List.take_of_length_le (by omega)] at ht
  rw [same_true ht]
  exact And.intro (Or.inr rfl) rfl
def Okc (c : List Ps) : Prop:=∀ p ∈ c,Okp p ∧ (p.length : Int) <= 9223372036854775807
theorem Okc.qd {c : List Ps} (h : Okc c) : QDc c:=fun p hp => ⟨fun r hr => by
 obtain ⟨n,d,rfl,_⟩:=(h p hp).1 r hr
 exact ⟨_,_,_,_,rfl,Dg.magD _,Dg.magD _⟩,(h p hp).2⟩
theorem paths_spec {a b : List Ps} (ha : Okc a) (hb : QDc b) (hl : (a.length : Int) <= 9223372036854775807) : Spec Tryz.prog [] 23 [pthv a,pthv b] (.bool (same a b)):=by
 have la : ((prow a).length : Int) = a.length:=by rw [prow_len]
 have lb : ((prow b).length : Int) = b.length:=by rw [prow_len]
 by_cases hn : a.length = b.length
 rotate_left
 ·have e1 : ((prow a).length : Int) ≠ ((prow b).length : Int):=by omega
  rw [same_false (fun e => hn (by rw [e]))]
  refine spec_fn T_ok mixed_ok 0 Tryz.func23 fn_ok23 (by kernel_rfl) ?_
  refine brN (fun _ => ?_) (fun g => absurd g e1)
  exact And.intro (Or.inr rfl) rfl
 have e1 : ((prow a).length : Int) = ((prow b).length : Int):=by omega
 refine spec_fn T_ok mixed_ok 0 Tryz.func23 fn_ok23 (by kernel_rfl) ?_
 refine brN (fun g => absurd e1 g) (fun _ => ?_)
 refine aw_loop (fun i : Nat => stOf [(0,pthv a),(1,pthv b),(5,.int .i64 (i : Int))] [] 0) (fun i => i <= a.length ∧ a.take i = b.take i) (fun i => a.length - i) 0 ⟨Nat.zero_le _,rfl⟩
  (le_by ⟨rfl,rfl,rfl,trivial⟩ trivial (Nat.le_refl _)) ?_
 rintro i ⟨hi,ht⟩ P hP
 refine br (fun g => ?_) (fun g => ?_)
 ·have g : i < a.length:=by have : (i : Int) < ((prow a).length : Int):=g; omega
  obtain ⟨x,hx⟩:=get_of g
  obtain ⟨y,hy⟩:=get_of (l:=b) (i:=i) (by omega)
  have c:=rsame_spec (ha x (List.mem_of_getElem? hx)).1 (hb y (List.mem_of_getElem? hy)).1 (ha x (List.mem_of_getElem? hx)).2
  refine And.intro (by kernel_rfl) ?_
  refine And.intro (Int.natCast_nonneg i) (Exists.intro _ (And.intro (prow_at hx) ?_))
  refine And.intro (Int.natCast_nonneg i) (Exists.intro _ (And.intro (prow_at hy) ?_))
  by_cases e : x = y
  ·rw [same_true e] at c
   first | refine Exists.intro _ (And.intro (c) ?_) | refine Hn_by (Exists.intro _ (And.intro (c) ?_))
   repeat (first | refine gT ?_ | refine gF ?_ | refine brT ?_ | refine brF ?_)
   refine hP (i + 1) _ ?_ ⟨g,take_eq_succ ht hx hy e⟩ (by omega)
   refine le_by ⟨rfl,rfl,int_eq ?_,trivial⟩ trivial (Nat.le_refl _)
   exact w64_succ g hl
  ·rw [same_false e] at c
   first | refine Exists.intro _ (And.intro (c) ?_) | refine Hn_by (Exists.intro _ (And.intro (c) ?_))
   repeat (first | refine gT ?_ | refine gF ?_ | refine brT ?_ | refine brF ?_)
   rw [same_false (fun e2 => e (by subst e2; rw [hx] at hy; exact Option.some.inj hy))]
   exact And.intro (Or.inr rfl) rfl
 ·have g : ¬ i < a.length:=by have : ¬ (i : Int) < ((prow a).length : Int):=g; omega
  rw [List.take_of_length_le (by omega),List.take_of_length_le (by omega)] at ht
  rw [same_true ht]
  exact And.intro (Or.inr rfl) rfl
end Ab
end
section
open Go Go.Proofs
namespace Ab
set_option maxRecDepth 100000
set_option maxHeartbeats 1000000
theorem ownInt_spec (neg : Bool) (l : List Int) (hl : l.length <= 1073741824) : Spec Tryz.prog [] 108 [mkI neg l] (mkI neg l):=by
 have ll : ((irows .u32 l).length : Int) = l.length:=by rw [irows_len]
 refine spec_fn T_ok mixed_ok 0 Tryz.func108 fn_ok108 (by kernel_rfl) ?_
 refine And.intro (show (0 : Int) <= ((irows .u32 l).length : Int) by omega) (And.intro (Int.le_refl _) (And.intro (show ((irows .u32 l).length : Int) * 4 <= 140737488355328 by omega) (And.intro (show ((irows .u32 l).length : Int) <= maxLen by simp only [maxLen]; omega) ?_)))
 refine And.intro (irows_ok _ _) ?_
 have e : ((irows .u32 l).length : Int).toNat = (irows .u32 l).length:=by omega
 refine And.intro (show 0 + ((irows .u32 l).length : Int).toNat <= (List.replicate ((irows .u32 l).length : Int).toNat [AV.int .u32 0]).length by rw [List.length_replicate]; omega) ?_
 refine And.intro (Or.inr rfl) ?_
 refine And.intro ?_ ?_
 ·simp
 ·refine congrArg (fun x => AV.agg [AV.bool neg,AV.sl x]) (?_ : _ = irows .u32 l)
  simp
theorem own_spec {r : List AV} (h : Qok r) : Spec Tryz.prog [] 76 [.agg r] (.agg r):=by
 obtain ⟨n,d,rfl,fn,fd,_⟩:=h
 have s1:=ownInt_spec (decide (n < 0)) (Dg.mag (az n)) (Nat.le_trans fn (by decide))
 have s2:=ownInt_spec (decide (d < 0)) (Dg.mag (az d)) (Nat.le_trans fd (by decide))
 refine spec_fn T_ok mixed_ok 0 Tryz.func76 fn_ok76 (by kernel_rfl) ?_
 refine And.intro (by kernel_rfl) ?_
 repeat (first | refine gT ?_ | refine gF ?_ | refine brT ?_ | refine brF ?_ | refine And.intro rfl ?_)
 first | refine Exists.intro _ (And.intro (s1) ?_) | refine Hn_by (Exists.intro _ (And.intro (s1) ?_))
 repeat (first | refine gT ?_ | refine gF ?_ | refine brT ?_ | refine brF ?_ | refine And.intro rfl ?_)
 first | refine Exists.intro _ (And.intro (s2) ?_) | refine Hn_by (Exists.intro _ (And.intro (s2) ?_))
 repeat (first | refine gT ?_ | refine gF ?_ | refine brT ?_ | refine brF ?_ | refine And.intro rfl ?_)
 exact And.intro (Or.inr rfl) rfl
def zr : List AV:=[.bool false,.sl [],.bool false,.sl []]
theorem fill_set {p : Ps} {i : Nat} {x : List AV} (h : p[i]? = some x) : (p.take i ++ List.replicate (p.length - i) zr).set i x = p.take (i + 1) ++ List.replicate (p.length - (i + 1)) zr:=by
 have g:=(List.getElem?_eq_some_iff.1 h).1
 have e : (p.take i).length = i:=by rw [List.length_take]; omega
 rw [List.set_append_right _ _ (by omega),e,Nat.sub_self,show p.length - i = (p.length - (i + 1)) + 1 by omega,List.replicate_succ,List.set_cons_zero,List.take_add_one,h]
 simp
theorem fill_at {p : Ps} {i : Nat} (g : i < p.length) : (p.take i ++ List.replicate (p.length - i) zr)[i]? = some zr:=by
 have e : (p.take i).length = i:=by rw [List.length_take]; omega
 rw [List.getElem?_append_right (by omega),e,Nat.sub_self,show p.length - i = (p.length - (i + 1)) + 1 by omega]
 rfl
theorem ownAll_spec {p : Ps} (h : Okp p) (hl : p.length <= 1073741824) : Spec Tryz.prog [] 48 [.sl p] (.sl p):=by
 refine spec_fn T_ok mixed_ok 0 Tryz.func48 fn_ok48 (by kernel_rfl) ?_
 refine And.intro (show (0 : Int) <= (p.length : Int) by omega) (And.intro (Int.le_refl _) (And.intro (show (p.length : Int) * 64 <= 140737488355328 by omega) (And.intro (show (p.length : Int) <= maxLen by simp only [maxLen]; omega) ?_)))
 refine aw_loop (fun i : Nat => stOf [(0,.sl p),(3,.ms 0 0 p.length),(9,.int .i64 (p.length : Int)),(10,.int .i64 (i : Int))] [(0,.arr (67,4) (p.take i ++ List.replicate (p.length - i) zr) true)] 1) (fun i => i <= p.length) (fun i => p.length - i) 0 (Nat.zero_le _)
  (le_by ⟨rfl,rfl,rfl,rfl,trivial⟩ ⟨rfl,trivial⟩ (Nat.le_refl _)) ?_
 intro i hi P hP
 refine br (fun g => ?_) (fun g => ?_)
 ·have g : i < p.length:=by have : (i : Int) < (p.length : Int):=g; omega
  obtain ⟨r,hr⟩:=get_of g
  have hq:=h r (List.mem_of_getElem? hr)
  have s:=own_spec hq
  obtain ⟨n,d,rfl,_⟩:=hq
  refine And.intro (Int.natCast_nonneg i) (Exists.intro _ (And.intro (nat_at hr) ?_))
  first | refine Exists.intro _ (And.intro (s) ?_) | refine Hn_by (Exists.intro _ (And.intro (s) ?_))
  refine And.intro (Int.natCast_nonneg i) (And.intro (show (i : Int) < (p.length : Int) by omega) ?_)
  refine Exists.intro zr (And.intro (show (p.take i ++ List.replicate (p.length - i) zr)[0 + (i : Int).toNat]? = some zr by rw [Nat.zero_add,Int.toNat_natCast]; exact fill_at g) ?_)
  refine hP (i + 1) _ ?_ g (by omega)
  refine le_by ⟨rfl,rfl,rfl,int_eq ?_,trivial⟩ ⟨?_,trivial⟩ (Nat.le_refl _)
  ·exact w64_succ g (by omega)
  ·show some (Blk.arr (67,4) ((p.take i ++ List.replicate (p.length - i) zr).set (0 + (i : Int).toNat) (qr n d)) true) = _
   rw [Nat.zero_add,Int.toNat_natCast,fill_set hr]
 ·have g : ¬ i < p.length:=by have : ¬ (i : Int) < (p.length : Int):=g; omega
  have e : i = p.length:=by omega
  subst e
  refine And.intro (Or.inr rfl) ?_
  refine And.intro (by simp) (congrArg AV.sl ?_)
  simp
end Ab
end
section
open Go Go.Proofs
namespace Ab
set_option maxRecDepth 100000
set_option maxHeartbeats 1000000
theorem okc_of {c : List Ps} (h : pathB c = true) : Okc c ∧ (c.length <= 24 ∧ 0 < c.length) ∧ ∀ p ∈ c,p.length <= 20:=by
 obtain ⟨n,h1,⟨h2,h3⟩,h4⟩:=pathB_iff.1 h
 exact ⟨fun p hp => ⟨(h4 p hp).2,by have:=(h4 p hp).1; omega⟩,⟨h3,h2⟩,fun p hp => by have:=(h4 p hp).1; omega⟩
def bwd (c : List Ps) (i : Nat) : List AV:=List.replicate (c.length - i) .nil ++ ((c.take i).reverse.map AV.sl)
theorem bwd_len {c : List Ps} {i : Nat} (h : i <= c.length) : (bwd c i).length = c.length:=by simp [bwd]; omega
theorem bwd_set {c : List Ps} {i : Nat} {p : Ps} (h : c[i]? = some p) : (bwd c i).set (c.length - 1 - i) (.sl p) = bwd c (i + 1):=by
 have g:=(List.getElem?_eq_some_iff.1 h).1
 unfold bwd
 rw [show c.length - i = (c.length - (i + 1)) + 1 by omega,show c.length - 1 - i = c.length - (i + 1) by omega]
 rw [List.set_append_left _ _ (by simp),List.replicate_succ',List.set_append_right _ _ (by simp),List.length_replicate,Nat.sub_self,List.set_cons_zero,List.take_add_one,h]
 simp
theorem bwd_full (c : List Ps) : bwd c c.length = c.reverse.map AV.sl:=by simp [bwd]
theorem bwd_zero (c : List Ps) : bwd c 0 = List.replicate c.length .nil:=by simp [bwd]
theorem toDs_sl {hp : Nat -> Option Blk} (l : List Ps) {K : List AV -> Prop} (h : K (l.map AV.sl)) : toDs hp (l.map AV.sl) K:=by
 induction l generalizing K with
 | nil => exact h
 | cons x l ih => exact ih (K:=fun ds => K (.sl x :: ds)) h
theorem prow_map (c : List Ps) : (c.map AV.sl).map (fun d => [d]) = prow c:=by simp [prow]
noncomputable def revF (c : List Ps) : AV:=match pathB c with | true => .tup [pthv c.reverse,.int .i64 0] | false => .tup [.sl [],.int .i64 170]
theorem reverse_spec {c : List Ps} (h : QDc c) : Spec Tryz.prog [] 25 [pthv c] (revF c):=by
 have ip:=isPath_spec h
 have lc : ((prow c).length : Int) = c.length:=by rw [prow_len]
 cases hb : pathB c with
 | false =>
  unfold revF
  rw [hb] at ip ⊢
  refine spec_fn T_ok mixed_ok 0 Tryz.func25 fn_ok25 (by kernel_rfl) ?_
  first | refine Exists.intro _ (And.intro (ip) ?_) | refine Hn_by (Exists.intro _ (And.intro (ip) ?_))
  repeat (first | refine gT ?_ | refine gF ?_ | refine brT ?_ | refine brF ?_)
  exact And.intro (Or.inr rfl) rfl
 | true =>
  obtain ⟨ok,⟨h24,h0⟩,h20⟩:=okc_of hb
  unfold revF
  rw [hb] at ip ⊢
  have hn : ((prow c).length : Int).toNat = c.length:=by omega
  refine spec_fn T_ok mixed_ok 0 Tryz.func25 fn_ok25 (by kernel_rfl) ?_
  first | refine Exists.intro _ (And.intro (ip) ?_) | refine Hn_by (Exists.intro _ (And.intro (ip) ?_))
  repeat (first | refine gT ?_ | refine gF ?_ | refine brT ?_ | refine brF ?_)
  refine And.intro (show (0 : Int) <= ((prow c).length : Int) by omega) (And.intro (Int.le_refl _) (And.intro (show ((prow c).length : Int) * 24 <= 140737488355328 by omega) (And.intro (show ((prow c).length : Int) <= maxLen by simp only [maxLen]; omega) ?_)))
  refine aw_loop (fun i : Nat => stOf [(0,pthv c),(4,.ms 0 0 c.length),(13,pthv c),(14,.int .i64 ((prow c).length : Int)),(15,.int .i64 (i : Int))] [(0,.own 30 (bwd c i))] 1) (fun i => i <= c.length) (fun i => c.length - i) 0 (Nat.zero_le _)
   (le_by ⟨rfl,(show AV.ms 0 0 ((prow c).length : Int).toNat = _ by rw [hn]),rfl,rfl,rfl,trivial⟩ ⟨(show some (Blk.own 30 (List.replicate ((prow c).length : Int).toNat .nil)) = _ by rw [hn,bwd_zero]),trivial⟩ (Nat.le_refl _)) ?_
  intro i hi P hP
  refine br (fun g => ?_) (fun g => ?_)
  ·have g : i < c.length:=by have : (i : Int) < ((prow c).length : Int):=g; omega
   obtain ⟨p,hp⟩:=get_of g
   have s:=ownAll_spec (ok p (List.mem_of_getElem? hp)).1 (by have:=h20 p (List.mem_of_getElem? hp); omega)
   have hw : w64 (w64 (((prow c).length : Int) - 1) - (i : Int)) = ((c.length - 1 - i : Nat) : Int):=by rw [w64_eq (n:=((prow c).length : Int) - 1) (by omega),w64_eq (by omega)]; omega
   refine And.intro (Int.natCast_nonneg i) (Exists.intro _ (And.intro (prow_at hp) ?_))
   first | refine Exists.intro _ (And.intro (s) ?_) | refine Hn_by (Exists.intro _ (And.intro (s) ?_))
   refine And.intro (show 0 <= w64 (w64 (((prow c).length : Int) - 1) - (i : Int)) by omega) (And.intro (show w64 (w64 (((prow c).length : Int) - 1) - (i : Int)) < (c.length : Int) by omega) ?_)
   have ho : 0 + (w64 (w64 (((prow c).length : Int) - 1) - (i : Int))).toNat = c.length - 1 - i:=by omega
   refine mT (show Nat.ble ((0 + (w64 (w64 (((prow c).length : Int) - 1) - (i : Int))).toNat) + 1) (lenL (bwd c i)) = true from ble_len (by rw [bwd_len hi]; omega)) ?_
   refine forceL_by (set_app (0 + (w64 (w64 (((prow c).length : Int) - 1) - (i : Int))).toNat) (bwd c i) (.sl p) (by rw [bwd_len hi]; omega)) ?_
   refine hP (i + 1) _ ?_ g (by omega)
   refine le_by ⟨rfl,rfl,rfl,rfl,int_eq ?_,trivial⟩ ⟨?_,trivial⟩ (Nat.le_refl _)
   ·exact w64_succ g (by omega)
   ·show some (Blk.own 30 ((bwd c i).set (0 + (w64 (w64 (((prow c).length : Int) - 1) - (i : Int))).toNat) (.sl p))) = _
    rw [ho,bwd_set hp]
  ·have g : ¬ i < c.length:=by have : ¬ (i : Int) < ((prow c).length : Int):=g; omega
   have e : i = c.length:=by omega
   subst e
   refine And.intro (Or.inr rfl) ?_
   refine And.intro (show 0 + c.length <= (bwd c c.length).length by rw [bwd_len (Nat.le_refl _)]; omega) ?_
   rw [show ((bwd c c.length).drop 0).take c.length = c.reverse.map AV.sl by rw [bwd_full,List.drop_zero,List.take_of_length_le (by simp)]]
   refine toDs_sl _ ?_
   rw [prow_map]
   rfl
end Ab
end
section
open Go Go.Proofs
namespace Ab
set_option maxRecDepth 100000
set_option maxHeartbeats 1000000
noncomputable def closedB (c : List Ps) : Bool:=pathB c && same (c.getD 0 []) (c.getD (c.length - 1) [])
noncomputable def joinB (a b : List Ps) : Bool:=pathB a && (pathB b && (same (a.getD (a.length - 1) []) (b.getD 0 []) && decide (a.length + b.length <= 25)))
noncomputable def joinF (a b : List Ps) : AV:=match joinB a b with | true => .tup [pthv (a ++ b.drop 1),.int .i64 0] | false => .tup [.sl [],.int .i64 170]
theorem getD_at {c : List Ps} {i : Nat} (h : i < c.length) : c[i]? = some (c.getD i []):=by rw [List.getD_eq_getElem?_getD,List.getElem?_eq_getElem h]; rfl
theorem closed_spec {c : List Ps} (h : QDc c) : Spec Tryz.prog [] 31 [pthv c] (.bool (closedB c)):=by
 have lc : ((prow c).length : Int) = c.length:=by rw [prow_len]
 have ip:=isPath_spec h
 unfold closedB
 cases hb : pathB c with
 | false =>
  rw [hb] at ip
  refine spec_fn T_ok mixed_ok 0 Tryz.func31 fn_ok31 (by kernel_rfl) ?_
  refine And.intro (by kernel_rfl) ?_
  first | refine Exists.intro _ (And.intro (ip) ?_) | refine Hn_by (Exists.intro _ (And.intro (ip) ?_))
  repeat (first | refine gT ?_ | refine gF ?_ | refine brT ?_ | refine brF ?_)
  exact And.intro (Or.inr rfl) rfl
 | true =>
  obtain ⟨ok,⟨h24,h0⟩,h20⟩:=okc_of hb
  rw [hb] at ip
  have hw : w64 (((prow c).length : Int) - 1) = ((c.length - 1 : Nat) : Int):=by rw [w64_eq (by omega)]; omega
  have a1:=getD_at (c:=c) (i:=0) h0
  have a2:=getD_at (c:=c) (i:=c.length - 1) (by omega)
  have q1:=ok _ (List.mem_of_getElem? a1)
  have q2:=ok _ (List.mem_of_getElem? a2)
  have s:=psame_spec q1.1 q2.1 q1.2
  refine spec_fn T_ok mixed_ok 0 Tryz.func31 fn_ok31 (by kernel_rfl) ?_
  refine And.intro (by kernel_rfl) ?_
  first | refine Exists.intro _ (And.intro (ip) ?_) | refine Hn_by (Exists.intro _ (And.intro (ip) ?_))
  repeat (first | refine gT ?_ | refine gF ?_ | refine brT ?_ | refine brF ?_)
  refine And.intro (Int.le_refl 0) (Exists.intro _ (And.intro (prow_at a1) ?_))
  repeat (first | refine gT ?_ | refine gF ?_ | refine brT ?_ | refine brF ?_)
  refine And.intro (show 0 <= w64 (((prow c).length : Int) - 1) by omega) (Exists.intro _ (And.intro (show (prow c)[(w64 (((prow c).length : Int) - 1)).toNat]? = some [AV.sl (c.getD (c.length - 1) [])] by rw [hw]; exact prow_at a2) ?_))
  repeat (first | refine gT ?_ | refine gF ?_ | refine brT ?_ | refine brF ?_)
  first | refine Exists.intro _ (And.intro (s) ?_) | refine Hn_by (Exists.intro _ (And.intro (s) ?_))
  exact And.intro (Or.inr rfl) rfl
def accV : List Ps -> AV
 | [] => .nil
 | p :: l => .ms 0 0 (p :: l).length
def accH : List Ps -> List (Nat × Blk)
 | [] => []
 | p :: l => [(0,.own 30 ((p :: l).map AV.sl))]
theorem app_sl (l : List Ps) (p : Ps) : appL (l.map AV.sl) [AV.sl p] = (l ++ [p]).map AV.sl:=by rw [appL_eq]; simp
def ac2V (a : List Ps) : List Ps -> AV
 | [] => .ms 0 0 a.length
 | p :: l => .ms 1 0 (a ++ p :: l).length
def ac2H (a : List Ps) : List Ps -> List (Nat × Blk)
 | [] => [(0,.own 30 (a.map AV.sl))]
 | p :: l => [(1,.own 30 ((a ++ p :: l).map AV.sl))]
end Ab
end
section
open Go Go.Proofs
namespace Ab
set_option maxRecDepth 100000
set_option maxHeartbeats 1000000
theorem take_snoc {α : Type} {c l : List α} {p : α} (h : l = c.take l.length) (hp : c[l.length]? = some p) : l ++ [p] = c.take (l ++ [p]).length:=by
 rw [List.length_append,List.length_singleton,List.take_add_one,hp,<- h]; rfl
theorem drop_take {α : Type} {c l : List α} {p : α} (h : l = (c.drop 1).take l.length) (hp : c[l.length + 1]? = some p) : l ++ [p] = (c.drop 1).take (l ++ [p]).length:=by
 rw [List.length_append,List.length_singleton,List.take_add_one,List.getElem?_drop,Nat.add_comm 1,hp,<- h]; rfl
theorem len_one {v : AV} : [v].length * 24 <= 140737488355328:=by simp
theorem len_one2 {v : AV} : [v].length <= maxLen:=by simp [maxLen]
theorem slice_one {b : List Ps} : ((prow b).take (prow b).length).drop (1 : Int).toNat = prow (b.drop 1):=by
 rw [List.take_of_length_le (Nat.le_refl _)]
 simp [prow]
theorem prow_ok (c : List Ps) : RowsOk 1 (prow c):=fun r hr => by
 obtain ⟨x,_,rfl⟩:=List.mem_map.1 hr; rfl
theorem out_eq (L : List Ps) : ((L.map AV.sl).drop 0).take L.length = L.map AV.sl:=by rw [List.drop_zero,List.take_of_length_le (by simp)]
theorem join_spec {a b : List Ps} (ha : QDc a) (hb : QDc b) : Spec Tryz.prog [] 27 [pthv a,pthv b] (joinF a b):=by
 have la : ((prow a).length : Int) = a.length:=by rw [prow_len]
 have lb : ((prow b).length : Int) = b.length:=by rw [prow_len]
 have ia:=isPath_spec ha
 have ib:=isPath_spec hb
 cases ea : pathB a with
 | false =>
  rw [ea] at ia
  rw [show joinF a b = .tup [.sl [],.int .i64 170] by unfold joinF joinB; rw [ea]; rfl]
  refine spec_fn T_ok mixed_ok 0 Tryz.func27 fn_ok27 (by kernel_rfl) ?_
  refine And.intro (by kernel_rfl) ?_
  first | refine Exists.intro _ (And.intro (ia) ?_) | refine Hn_by (Exists.intro _ (And.intro (ia) ?_))
  repeat (first | refine gT ?_ | refine gF ?_ | refine brT ?_ | refine brF ?_)
  exact And.intro (Or.inr rfl) rfl
 | true =>
 cases eb : pathB b with
 | false =>
  rw [ea] at ia
  rw [eb] at ib
  rw [show joinF a b = .tup [.sl [],.int .i64 170] by unfold joinF joinB; rw [ea,eb]; rfl]
  refine spec_fn T_ok mixed_ok 0 Tryz.func27 fn_ok27 (by kernel_rfl) ?_
  refine And.intro (by kernel_rfl) ?_
  first | refine Exists.intro _ (And.intro (ia) ?_) | refine Hn_by (Exists.intro _ (And.intro (ia) ?_))
  repeat (first | refine gT ?_ | refine gF ?_ | refine brT ?_ | refine brF ?_)
  first | refine Exists.intro _ (And.intro (ib) ?_) | refine Hn_by (Exists.intro _ (And.intro (ib) ?_))
  repeat (first | refine gT ?_ | refine gF ?_ | refine brT ?_ | refine brF ?_)
  exact And.intro (Or.inr rfl) rfl
 | true =>
 obtain ⟨oka,⟨a24,a0⟩,a20⟩:=okc_of ea
 obtain ⟨okb,⟨b24,b0⟩,b20⟩:=okc_of eb
 rw [ea] at ia
 rw [eb] at ib
 have hw : w64 (((prow a).length : Int) - 1) = ((a.length - 1 : Nat) : Int):=by rw [w64_eq (by omega)]; omega
 have a1:=getD_at (c:=a) (i:=a.length - 1) (by omega)
 have a2:=getD_at (c:=b) (i:=0) b0
 have q1:=oka _ (List.mem_of_getElem? a1)
 have q2:=okb _ (List.mem_of_getElem? a2)
 have s:=psame_spec q1.1 q2.1 q1.2
 have hi : (prow a)[(w64 (((prow a).length : Int) - 1)).toNat]? = some [AV.sl (a.getD (a.length - 1) [])]:=by rw [hw]; exact prow_at a1
 cases es : same (a.getD (a.length - 1) []) (b.getD 0 []) with
 | false =>
  rw [es] at s
  rw [show joinF a b = .tup [.sl [],.int .i64 170] by unfold joinF joinB; rw [ea,eb,es]; rfl]
  refine spec_fn T_ok mixed_ok 0 Tryz.func27 fn_ok27 (by kernel_rfl) ?_
  refine And.intro (by kernel_rfl) ?_
  first | refine Exists.intro _ (And.intro (ia) ?_) | refine Hn_by (Exists.intro _ (And.intro (ia) ?_))
  repeat (first | refine gT ?_ | refine gF ?_ | refine brT ?_ | refine brF ?_)
  first | refine Exists.intro _ (And.intro (ib) ?_) | refine Hn_by (Exists.intro _ (And.intro (ib) ?_))
  repeat (first | refine gT ?_ | refine gF ?_ | refine brT ?_ | refine brF ?_)
  refine And.intro (show 0 <= w64 (((prow a).length : Int) - 1) by omega) (Exists.intro _ (And.intro hi ?_))
  repeat (first | refine gT ?_ | refine gF ?_ | refine brT ?_ | refine brF ?_)
  refine And.intro (Int.le_refl 0) (Exists.intro _ (And.intro (prow_at a2) ?_))
  repeat (first | refine gT ?_ | refine gF ?_ | refine brT ?_ | refine brF ?_)
  first | refine Exists.intro _ (And.intro (s) ?_) | refine Hn_by (Exists.intro _ (And.intro (s) ?_))
  repeat (first | refine gT ?_ | refine gF ?_ | refine brT ?_ | refine brF ?_)
  exact And.intro (Or.inr rfl) rfl
 | true =>
 rw [es] at s
 have hw2 : w64 (w64 (((prow a).length : Int) + ((prow b).length : Int)) - 1) = (a.length : Int) + b.length - 1:=by rw [w64_eq (n:=((prow a).length : Int) + ((prow b).length : Int)) (by omega),w64_eq (by omega)]; omega
 by_cases hl : a.length + b.length <= 25
 rotate_left
 ·rw [show joinF a b = .tup [.sl [],.int .i64 170] by unfold joinF joinB; rw [ea,eb,es,decide_eq_false hl]; rfl]
  refine spec_fn T_ok mixed_ok 0 Tryz.func27 fn_ok27 (by kernel_rfl) ?_
  refine And.intro (by kernel_rfl) ?_
  first | refine Exists.intro _ (And.intro (ia) ?_) | refine Hn_by (Exists.intro _ (And.intro (ia) ?_))
  repeat (first | refine gT ?_ | refine gF ?_ | refine brT ?_ | refine brF ?_)
  first | refine Exists.intro _ (And.intro (ib) ?_) | refine Hn_by (Exists.intro _ (And.intro (ib) ?_))
  repeat (first | refine gT ?_ | refine gF ?_ | refine brT ?_ | refine brF ?_)
  refine And.intro (show 0 <= w64 (((prow a).length : Int) - 1) by omega) (Exists.intro _ (And.intro hi ?_))
  repeat (first | refine gT ?_ | refine gF ?_ | refine brT ?_ | refine brF ?_)
  refine And.intro (Int.le_refl 0) (Exists.intro _ (And.intro (prow_at a2) ?_))
  repeat (first | refine gT ?_ | refine gF ?_ | refine brT ?_ | refine brF ?_)
  first | refine Exists.intro _ (And.intro (s) ?_) | refine Hn_by (Exists.intro _ (And.intro (s) ?_))
  repeat (first | refine gT ?_ | refine gF ?_ | refine brT ?_ | refine brF ?_)
  refine br (fun _ => ?_) (fun g => absurd (show w64 (w64 (((prow a).length : Int) + ((prow b).length : Int)) - 1) > 24 by omega) g)
  exact And.intro (Or.inr rfl) rfl
 rw [show joinF a b = .tup [pthv (a ++ b.drop 1),.int .i64 0] by unfold joinF joinB; rw [ea,eb,es,decide_eq_true hl]; rfl]
 refine spec_fn T_ok mixed_ok 0 Tryz.func27 fn_ok27 (by kernel_rfl) ?_
 refine And.intro (by kernel_rfl) ?_
 first | refine Exists.intro _ (And.intro (ia) ?_) | refine Hn_by (Exists.intro _ (And.intro (ia) ?_))
 repeat (first | refine gT ?_ | refine gF ?_ | refine brT ?_ | refine brF ?_)
 first | refine Exists.intro _ (And.intro (ib) ?_) | refine Hn_by (Exists.intro _ (And.intro (ib) ?_))
 repeat (first | refine gT ?_ | refine gF ?_ | refine brT ?_ | refine brF ?_)
 refine And.intro (show 0 <= w64 (((prow a).length : Int) - 1) by omega) (Exists.intro _ (And.intro hi ?_))
 repeat (first | refine gT ?_ | refine gF ?_ | refine brT ?_ | refine brF ?_)
 refine And.intro (Int.le_refl 0) (Exists.intro _ (And.intro (prow_at a2) ?_))
 repeat (first | refine gT ?_ | refine gF ?_ | refine brT ?_ | refine brF ?_)
 first | refine Exists.intro _ (And.intro (s) ?_) | refine Hn_by (Exists.intro _ (And.intro (s) ?_))
 repeat (first | refine gT ?_ | refine gF ?_ | refine brT ?_ | refine brF ?_)
 refine br (fun g => absurd (show w64 (w64 (((prow a).length : Int) + ((prow b).length : Int)) - 1) > 24 from g) (by omega)) (fun _ => ?_)
 refine aw_loopN 0 (fun l : List Ps => stOf [(0,pthv a),(1,pthv b),(6,accV l),(41,pthv a),(42,.int .i64 ((prow a).length : Int)),(43,.int .i64 (l.length : Int))] (accH l) 1) (fun l => l.length <= a.length ∧ l = a.take l.length) (fun l => a.length - l.length) [] ⟨Nat.zero_le _,rfl⟩
  (.inl (le_by ⟨rfl,rfl,rfl,rfl,rfl,rfl,trivial⟩ trivial (Nat.zero_le _))) (by kernel_rfl) ?_
 rintro l ⟨hi,hl0⟩ P hP
 refine br (fun g => ?_) (fun g => ?_)
 ·have g : l.length < a.length:=by have : (l.length : Int) < ((prow a).length : Int):=g; omega
  obtain ⟨p,hp⟩:=get_of g
  have s:=ownAll_spec (oka p (List.mem_of_getElem? hp)).1 (by have:=a20 p (List.mem_of_getElem? hp); omega)
  refine And.intro (Int.natCast_nonneg l.length) (Exists.intro _ (And.intro (prow_at hp) ?_))
  have hpre:=take_snoc hl0 hp
  have hlen : (l ++ [p]).length = l.length + 1:=by simp
  have hw:=w64_succ g (by omega)
  rw [<- hlen] at hw
  match l with
  | [] =>
   first | refine Exists.intro _ (And.intro (s) ?_) | refine Hn_by (Exists.intro _ (And.intro (s) ?_))
   refine And.intro (Nat.le_refl 1) (And.intro (by simp) (And.intro len_one (And.intro len_one2 ?_)))
   refine hP [p] _ ?_ ⟨by simp at hlen g ⊢; omega,hpre⟩ (by simp at g ⊢; omega)
   exact leR_by [(0,2)] [] rfl rfl (Nat.zero_le _) ⟨.inl rfl,.inl rfl,⟨by decide,by kernel_rfl⟩,.inl rfl,rfl,int_eq hw,trivial⟩ ⟨⟨rfl,rfl,_,rfl,cvs_sl [p]⟩,trivial⟩
  | x :: xs =>
   first | refine Exists.intro _ (And.intro (s) ?_) | refine Hn_by (Exists.intro _ (And.intro (s) ?_))
   refine And.intro (show (x :: xs).length = ((x :: xs).map AV.sl).length by simp) (And.intro (Nat.le_refl 1) (And.intro (show ((x :: xs).length + 1) * 24 <= 140737488355328 by omega) (And.intro (show (x :: xs).length + 1 <= maxLen by simp only [maxLen]; omega) ?_)))
   refine forceL_by (app_sl (x :: xs) p) ?_
   refine hP ((x :: xs) ++ [p]) _ ?_ ⟨by omega,hpre⟩ (by omega)
   refine leR_by [(0,2)] [] rfl rfl (Nat.zero_le _) ⟨.inl rfl,.inl rfl,⟨by decide,?_⟩,.inl rfl,rfl,int_eq hw,trivial⟩ ⟨⟨rfl,ones_sl _,_,rfl,cvs_sl _⟩,trivial⟩
   show AV.ms 2 0 ((x :: xs).length + 1) = AV.ms 2 0 ((x :: xs) ++ [p]).length
   rw [hlen]
 have g : ¬ l.length < a.length:=by have : ¬ (l.length : Int) < ((prow a).length : Int):=g; omega
 rw [List.take_of_length_le (by omega)] at hl0
 subst hl0
 match l,a0 with
 | x :: xs,_ =>
 refine And.intro (by decide) (And.intro (show (1 : Int) <= ((prow b).length : Int) by omega) (And.intro (prow_ok b) ?_))
 have lb1 : (((prow b).take (prow b).length).drop (1 : Int).toNat).length = (b.drop 1).length:=by rw [slice_one,prow_len]
 refine aw_loopN 1 (fun l2 : List Ps => stOf [(6,ac2V (x :: xs) l2),(54,pthv (b.drop 1)),(55,.int .i64 ((b.drop 1).length : Int)),(56,.int .i64 (l2.length : Int))] (ac2H (x :: xs) l2) 2) (fun l2 => l2.length <= (b.drop 1).length ∧ l2 = (b.drop 1).take l2.length) (fun l2 => (b.drop 1).length - l2.length) [] ⟨Nat.zero_le _,rfl⟩
  (.inl (le_by ⟨rfl,congrArg AV.sl slice_one,int_eq (by rw [lb1]),rfl,trivial⟩ ⟨rfl,trivial⟩ (show 1 <= 2 by decide))) (by kernel_rfl) ?_
 clear hP P
 rintro l2 ⟨hi,hl2⟩ P hP
 refine br (fun g => ?_) (fun g => ?_)
 ·have g : l2.length < (b.drop 1).length:=by have : (l2.length : Int) < ((b.drop 1).length : Int):=g; omega
  obtain ⟨p,hp1⟩:=get_of g
  have hp : b[l2.length + 1]? = some p:=by rw [List.getElem?_drop,Nat.add_comm 1] at hp1; exact hp1
  have s:=ownAll_spec (okb p (List.mem_of_getElem? hp)).1 (by have:=b20 p (List.mem_of_getElem? hp); omega)
  have hbl : (b.drop 1).length <= 24:=by rw [List.length_drop]; omega
  refine And.intro (Int.natCast_nonneg l2.length) (Exists.intro _ (And.intro (prow_at hp1) ?_))
  have hpre:=drop_take hl2 hp
  have hlen : (l2 ++ [p]).length = l2.length + 1:=by simp
  have hw:=w64_succ g (by omega)
  rw [<- hlen] at hw
  match l2 with
  | [] =>
   first | refine Exists.intro _ (And.intro (s) ?_) | refine Hn_by (Exists.intro _ (And.intro (s) ?_))
   refine And.intro (show (x :: xs).length = ((x :: xs).map AV.sl).length by simp) (And.intro (Nat.le_refl 1) (And.intro (show ((x :: xs).length + 1) * 24 <= 140737488355328 by omega) (And.intro (show (x :: xs).length + 1 <= maxLen by simp only [maxLen]; omega) ?_)))
   refine forceL_by (app_sl (x :: xs) p) ?_
   refine hP [p] _ ?_ ⟨by simp at hlen g ⊢; omega,hpre⟩ (by simp at g ⊢; omega)
   refine leR_by [(1,3)] [] rfl rfl (by decide) ⟨⟨by decide,?_⟩,.inl rfl,rfl,int_eq hw,trivial⟩ ⟨⟨rfl,ones_sl _,_,rfl,cvs_sl _⟩,trivial⟩
   show AV.ms 3 0 ((x :: xs).length + 1) = AV.ms 3 0 ((x :: xs) ++ [p]).length
   rw [List.length_append]; rfl
  | y :: ys =>
   first | refine Exists.intro _ (And.intro (s) ?_) | refine Hn_by (Exists.intro _ (And.intro (s) ?_))
   have e4 : ((x :: xs) ++ (y :: ys)).length = (x :: xs).length + (y :: ys).length:=List.length_append
   refine And.intro (show ((x :: xs) ++ (y :: ys)).length = (((x :: xs) ++ (y :: ys)).map AV.sl).length by simp) (And.intro (Nat.le_refl 1) (And.intro (show (((x :: xs) ++ (y :: ys)).length + 1) * 24 <= 140737488355328 by omega) (And.intro (show ((x :: xs) ++ (y :: ys)).length + 1 <= maxLen by simp only [maxLen]; omega) ?_)))
   refine forceL_by (app_sl ((x :: xs) ++ (y :: ys)) p) ?_
   refine hP ((y :: ys) ++ [p]) _ ?_ ⟨by omega,hpre⟩ (by omega)
   rw [List.append_assoc]
   refine leR_by [(1,3)] [] rfl rfl (by decide) ⟨⟨by decide,?_⟩,.inl rfl,rfl,int_eq hw,trivial⟩ ⟨⟨rfl,ones_sl _,_,rfl,cvs_sl _⟩,trivial⟩
   show AV.ms 3 0 (((x :: xs) ++ (y :: ys)).length + 1) = AV.ms 3 0 ((x :: xs) ++ ((y :: ys) ++ [p])).length
   rw [<- List.append_assoc,List.length_append (bs:=[p])]; rfl
 ·have g : ¬ l2.length < (b.drop 1).length:=by have : ¬ (l2.length : Int) < ((b.drop 1).length : Int):=g; omega
  rw [List.take_of_length_le (by omega)] at hl2
  rw [<- hl2]
  match l2 with
  | [] =>
   rw [List.append_nil]
   refine And.intro (Or.inr rfl) (And.intro (show 0 + (x :: xs).length <= ((x :: xs).map AV.sl).length by simp) ?_)
   rw [out_eq (x :: xs)]
   refine toDs_sl _ ?_
   rw [prow_map]
   rfl
  | y :: ys =>
   refine And.intro (Or.inr rfl) (And.intro (show 0 + (x :: xs ++ y :: ys).length <= ((x :: xs ++ y :: ys).map AV.sl).length by simp) ?_)
   rw [out_eq (x :: xs ++ y :: ys)]
   refine toDs_sl _ ?_
   rw [prow_map]
   rfl
end Ab
end
