import Derived.Test.YtpjjbhhoagocjaaGreatDoorXGz
section
open Go Go.Proofs
namespace Ab
set_option maxRecDepth 100000
set_option maxHeartbeats 1000000
theorem want1 (gl : List (Nat × AV)) {p : List Rat} (hp : Poly p) : Spec Tryz.prog gl 51 [.sl [[polyV p]]] (.tup []) :=
 want_spec gl (l:=[p]) (by intro r hr; simp only [List.mem_cons,List.not_mem_nil,or_false] at hr; rcases hr with rfl; exact hp) (by simp)
end Ab
end
section
open Go Go.Proofs
namespace Ab
set_option maxRecDepth 100000
set_option maxHeartbeats 1000000
end Ab
end
section
open Go Go.Proofs
namespace Ab
set_option maxRecDepth 100000
set_option maxHeartbeats 1000000
def derK (p : List Rat) (k : Nat) : List Rat:=(List.range k).map fun i => (((i + 1 : Nat) : Int) : Rat) * cf p (i + 1)
def derP (p : List Rat) : List Rat:=derK p (p.length - 1)
theorem derK_len (p : List Rat) (k : Nat) : (derK p k).length = k:=by simp [derK]
theorem derK_succ (p : List Rat) (k : Nat) : derK p (k + 1) = derK p k ++ [(((k + 1 : Nat) : Int) : Rat) * cf p (k + 1)]:=by
 unfold derK; rw [List.range_succ,List.map_append]; rfl
theorem derive_spec (gl : List (Nat × AV)) {p : List Rat} (hl : p.length <= 1000) (ok : ∀ i,i + 1 < p.length -> FM (((i + 1 : Nat) : Int) : Rat) (cf p (i + 1))) : Spec Tryz.prog gl 82 [polyV p] (polyV (derP p)):=by
 have lp:=poly_len p
 refine spec_fn T_ok mixed_ok 0 Tryz.func82 fn_ok82 (by kernel_rfl) ?_
 refine aw_loopN 0 (fun h : List Rat => stOf [(0,polyV p),(3,hV h),(4,.int .i64 ((h.length + 1 : Nat) : Int))] (hH h) 1)
  (fun h => h.length <= p.length - 1 ∧ h = derK p h.length) (fun h => p.length - 1 - h.length) [] ⟨Nat.zero_le _,rfl⟩
  (.inl (le_by ⟨rfl,rfl,rfl,trivial⟩ trivial (show 0 <= 1 by decide))) (by kernel_rfl) ?_
 rintro h ⟨hk,hh⟩ P hP
 obtain ⟨k,ek⟩ : ∃ k,k = h.length:=⟨_,rfl⟩
 rw [<- ek] at hk hh ⊢
 refine br (fun g => ?_) (fun g => ?_)
 ·have g : k + 1 < p.length:=by have : ((k + 1 : Nat) : Int) < ((p.map rv).length : Int):=g; omega
  have o1:=of_uni gl (n:=((k + 1 : Nat) : Int)) (by omega) (by omega)
  have mu:=mul_rat gl (ok k g)
  have ms:=must_spec gl ((((k + 1 : Nat) : Int) : Rat) * cf p (k + 1))
  have ds:=derK_succ p k
  have dl2:=derK_len p (k + 1)
  have hw : w64 (((k + 1 : Nat) : Int) + 1) = ((k + 1 + 1 : Nat) : Int):=w64_nat (by omega) (by omega)
  generalize (((k + 1 : Nat) : Int) : Rat) * cf p (k + 1) = v at mu ms ds
  unfold rV rv at o1 mu ms
  rw [<- hh] at ds
  cases h with
  | nil =>
   repeat (first | refine gT ?_ | refine gF ?_ | refine brT ?_ | refine brF ?_)
   refine And.intro (by kernel_rfl) ?_
   repeat (first | refine gT ?_ | refine gF ?_ | refine brT ?_ | refine brF ?_ | refine And.intro rfl ?_)
   first | refine Exists.intro _ (And.intro (o1) ?_) | refine Hn_by (Exists.intro _ (And.intro (o1) ?_))
   repeat (first | refine gT ?_ | refine gF ?_ | refine brT ?_ | refine brF ?_ | refine And.intro rfl ?_)
   refine And.intro (Int.natCast_nonneg _) (Exists.intro _ (And.intro (idx_nat rfl g) ?_))
   repeat (first | refine gT ?_ | refine gF ?_ | refine brT ?_ | refine brF ?_ | refine And.intro rfl ?_)
   first | refine Exists.intro _ (And.intro (mu) ?_) | refine Hn_by (Exists.intro _ (And.intro (mu) ?_))
   repeat (first | refine gT ?_ | refine gF ?_ | refine brT ?_ | refine brF ?_ | refine And.intro rfl ?_)
   first | refine Exists.intro _ (And.intro (ms) ?_) | refine Hn_by (Exists.intro _ (And.intro (ms) ?_))
   repeat (first | refine gT ?_ | refine gF ?_ | refine brT ?_ | refine brF ?_ | refine And.intro rfl ?_)
   refine And.intro (by decide) (And.intro (by decide) (And.intro (show 1 <= maxLen by simp [maxLen]) (And.intro (Nat.le_refl 1) ?_)))
   have k0 : k = 0:=ek
   subst k0
   refine hP [v] _ ?_ ⟨by simp; omega,ds.symm⟩ (by simp; omega)
   exact leR_by [(0,2)] [] rfl rfl (by decide) ⟨.inl rfl,⟨by decide,rfl⟩,int_eq hw,trivial⟩ ⟨⟨rfl,trivial,rfl⟩,trivial⟩
  | cons r h =>
   have hm : (r :: h).length = ((r :: h).map rv).length:=(List.length_map _).symm
   repeat (first | refine gT ?_ | refine gF ?_ | refine brT ?_ | refine brF ?_)
   refine And.intro (by kernel_rfl) ?_
   repeat (first | refine gT ?_ | refine gF ?_ | refine brT ?_ | refine brF ?_ | refine And.intro rfl ?_)
   first | refine Exists.intro _ (And.intro (o1) ?_) | refine Hn_by (Exists.intro _ (And.intro (o1) ?_))
   repeat (first | refine gT ?_ | refine gF ?_ | refine brT ?_ | refine brF ?_ | refine And.intro rfl ?_)
   refine And.intro (Int.natCast_nonneg _) (Exists.intro _ (And.intro (idx_nat rfl g) ?_))
   repeat (first | refine gT ?_ | refine gF ?_ | refine brT ?_ | refine brF ?_ | refine And.intro rfl ?_)
   first | refine Exists.intro _ (And.intro (mu) ?_) | refine Hn_by (Exists.intro _ (And.intro (mu) ?_))
   repeat (first | refine gT ?_ | refine gF ?_ | refine brT ?_ | refine brF ?_ | refine And.intro rfl ?_)
   first | refine Exists.intro _ (And.intro (ms) ?_) | refine Hn_by (Exists.intro _ (And.intro (ms) ?_))
   repeat (first | refine gT ?_ | refine gF ?_ | refine brT ?_ | refine brF ?_ | refine And.intro rfl ?_)
   refine And.intro hm (And.intro (Nat.le_refl 1) (And.intro (show ((r :: h).length + 1) * 64 <= 140737488355328 by omega) (And.intro (show (r :: h).length + 1 <= maxLen by simp only [maxLen]; omega) ?_)))
   have hrow : (r :: h).map rv ++ [rv v] = ((r :: h) ++ [v]).map rv:=by rw [List.map_append]; rfl
   have hms : AV.ms 2 0 ((r :: h).length + 1) = AV.ms 2 0 ((r :: h) ++ [v]).length:=by rw [List.length_append]; rfl
   have hl2 : ((r :: h) ++ [v]).length = k + 1:=by rw [List.length_append,List.length_singleton,ek]
   have hw2 : w64 (((k + 1 : Nat) : Int) + 1) = ((((r :: h) ++ [v]).length + 1 : Nat) : Int):=by rw [hl2]; exact hw
   refine hP ((r :: h) ++ [v]) _ ?_ ⟨by omega,by rw [hl2]; exact ds.symm⟩ (by omega)
   exact leR_by [(0,2)] [] rfl rfl (by decide) ⟨.inl rfl,⟨by decide,hms⟩,int_eq hw2,trivial⟩ ⟨⟨rfl,trivial,(show some (Blk.arr (34,4) ((r :: h).map rv ++ [rv v]) true) = some (Blk.arr (34,4) (((r :: h) ++ [v]).map rv) true) by rw [hrow])⟩,trivial⟩
 ·have g : ¬ k + 1 < p.length:=by have : ¬ ((k + 1 : Nat) : Int) < ((p.map rv).length : Int):=g; omega
  have e2 : k = p.length - 1:=by omega
  unfold derP
  rw [<- e2,<- hh]
  clear hP
  cases h with
  | nil => exact And.intro (Or.inr rfl) rfl
  | cons r h =>
   refine And.intro (Or.inr rfl) (And.intro (show 0 + (r :: h).length <= ((r :: h).map rv).length by rw [List.length_map]; omega) ?_)
   show AV.sl ((((r :: h).map rv).drop 0).take (r :: h).length) = _
   rw [List.drop_zero,List.take_of_length_le (by rw [List.length_map]; exact Nat.le_refl _)]
theorem Derivative_spec (gl : List (Nat × AV)) {p : List Rat} (hp : Poly p) (ok : ∀ i,i + 1 < p.length -> FM (((i + 1 : Nat) : Int) : Rat) (cf p (i + 1))) : Spec Tryz.prog gl 39 [polyV p] (.tup [polyV (derP p),.int .i64 0]):=by
 have w:=want1 gl hp
 have d:=derive_spec gl (Nat.le_trans hp.2.1 (by decide)) ok
 refine spec_fn T_ok mixed_ok 0 Tryz.func39 fn_ok39 (by kernel_rfl) ?_
 refine And.intro (Nat.le_refl 1) ?_
 first | refine Exists.intro _ (And.intro (w) ?_) | refine Hn_by (Exists.intro _ (And.intro (w) ?_))
 first | refine Exists.intro _ (And.intro (d) ?_) | refine Hn_by (Exists.intro _ (And.intro (d) ?_))
 repeat (first | refine gT ?_ | refine gF ?_ | refine brT ?_ | refine brF ?_)
 exact And.intro (Or.inr rfl) rfl
end Ab
end
