import Derived.Test.YtpjjbhhoagocjaaGreatDoorXGx
import Derived.Test.YtpjjbhhoagocjaaGreatDoorXShapeR
open Go Go.Proofs
namespace Ab
set_option maxRecDepth 100000
set_option maxHeartbeats 1000000
theorem number_spec (gl : List (Nat × AV)) {n : Int} (h0 : -1000000 <= n) (h1 : n <= 1000000) : Spec Tryz.prog gl 19 [.int .i64 n] (rV (n : Rat)):=by
 have o:=rof_int gl (n:=n) (d:=1) (by omega) (by omega) (by decide) (by decide)
 rw [rV_int] at o
 unfold rV rv at o ⊢
 refine spec_fn T_ok mixed_ok 0 Tryz.func19 fn_ok19 (by kernel_rfl) ?_
 first | refine Exists.intro _ (And.intro (o) ?_) | refine Hn_by (Exists.intro _ (And.intro (o) ?_))
 exact And.intro (Or.inr rfl) rfl
theorem linear_spec (gl : List (Nat × AV)) {n : Int} (h0 : -1000000 <= n) (h1 : n <= 1000000) : Spec Tryz.prog gl 22 [.int .i64 n] (polyV [((-n : Int) : Rat),1]):=by
 have s1:=number_spec gl (n:=-n) (by omega) (by omega)
 have s2 : Spec Tryz.prog gl 19 [.int .i64 1] (rV 1):=number_spec gl (n:=1) (by decide) (by decide)
 have e : w64 (0 - n) = -n:=by rw [w64_eq (by omega)]; omega
 rw [<- e] at s1
 rw [<- e]
 refine spec_fn T_ok mixed_ok 0 Tryz.func22 fn_ok22 (by kernel_rfl) ?_
 first | refine Exists.intro _ (And.intro (s1) ?_) | refine Hn_by (Exists.intro _ (And.intro (s1) ?_))
 first | refine Exists.intro _ (And.intro (s2) ?_) | refine Hn_by (Exists.intro _ (And.intro (s2) ?_))
 repeat (first | refine gT ?_ | refine gF ?_ | refine brT ?_ | refine brF ?_)
 exact And.intro (Or.inr rfl) (And.intro (Nat.le_refl 2) rfl)
def pickU (x n : Int) : Int:=(if x < 0 then -(x + 1) else x) % n
theorem pickU_bd {x n : Int} (hn : 0 < n) : 0 <= pickU x n ∧ pickU x n < n:=⟨Int.emod_nonneg _ (by omega),Int.emod_lt_of_pos _ hn⟩
theorem pick_uni (gl : List (Nat × AV)) {x n : Int} (h0 : -9223372036854775808 <= x) (h1 : x <= 9223372036854775807) (hn : 0 < n) : Spec Tryz.prog gl 23 [.int .i64 x,.int .i64 n] (.int .i64 (pickU x n)):=by
 refine spec_fn T_ok mixed_ok 0 Tryz.func23 fn_ok23 (by kernel_rfl) ?_
 refine br (fun g => ?_) (fun g => ?_)
 ·have e : w64 (0 - w64 (x + 1)) = -(x + 1):=by rw [w64_eq (n:=x + 1) (by omega),w64_eq (by omega)]; omega
  refine And.intro (by omega) ?_
  refine And.intro (Or.inr rfl) ?_
  show AV.int .i64 ((w64 (0 - w64 (x + 1))).tmod n) = _
  rw [e,Int.tmod_eq_emod_of_nonneg (by omega)]
  unfold pickU; rw [if_pos g]
 ·refine And.intro (by omega) ?_
  refine And.intro (Or.inr rfl) ?_
  show AV.int .i64 (x.tmod n) = _
  rw [Int.tmod_eq_emod_of_nonneg (by omega)]
  unfold pickU; rw [if_neg g]
theorem rv_inj {a b : Rat} (h : rv a = rv b) : a = b:=by
 obtain ⟨h1,h2⟩:=qr_inj h
 exact Rat.ext h1 (Int.ofNat.inj h2)
theorem sameRat_spec (gl : List (Nat × AV)) {a b : Rat} (ha : RF a) : Spec Tryz.prog gl 18 [rV a,rV b] (.bool (decide (a = b))):=by
 have s:=same3_spec gl (a:=decide (a.num < 0)) (b:=decide ((a.den : Int) < 0)) (c:=decide (b.num < 0)) (d:=decide ((b.den : Int) < 0)) (l:=Dg.mag (az a.num)) (m:=Dg.mag (az (a.den : Int))) (l':=Dg.mag (az b.num)) (m':=Dg.mag (az (b.den : Int))) (by have:=ha.1; unfold Fits at this; omega) (by have:=ha.2; unfold Fits at this; omega)
 rw [show same ([.bool (decide (a.num < 0)),lim (Dg.mag (az a.num)),.bool (decide ((a.den : Int) < 0)),lim (Dg.mag (az (a.den : Int)))] : List AV) [.bool (decide (b.num < 0)),lim (Dg.mag (az b.num)),.bool (decide ((b.den : Int) < 0)),lim (Dg.mag (az (b.den : Int)))] = decide (a = b) from same_of (by
  rw [decide_eq_true_iff]
  exact ⟨fun e => by rw [e],fun e => rv_inj e⟩)] at s
 exact s
theorem sameL_spec (gl : List (Nat × AV)) {p q : List Rat} (hp : AllRF p) (_hl : p.length <= 1000000) (hl2 : q.length <= 1000000) : Spec Tryz.prog gl 20 [polyV p,polyV q] (.bool (decide (p = q))):=by
 have lp:=poly_len p
 have lq:=poly_len q
 by_cases hn : p.length = q.length
 ·refine spec_fn T_ok mixed_ok 0 Tryz.func20 fn_ok20 (by kernel_rfl) ?_
  refine brN (fun g => absurd (show ((p.map rv).length : Int) = ((q.map rv).length : Int) by omega) g) (fun _ => ?_)
  refine aw_loop (fun i : Nat => stOf [(0,polyV p),(1,polyV q),(5,.int .i64 (i : Int))] [] 0) (fun i => i <= p.length ∧ p.take i = q.take i) (fun i => p.length - i) 0 ⟨Nat.zero_le _,rfl⟩
   (le_by ⟨rfl,rfl,rfl,trivial⟩ trivial (Nat.le_refl _)) ?_
  rintro i ⟨hi,ht⟩ P hP
  refine br (fun g => ?_) (fun g => ?_)
  ·have g : i < p.length:=by have : (i : Int) < ((p.map rv).length : Int):=g; omega
   have s:=sameRat_spec gl (a:=cf p i) (b:=cf q i) (hp.at g)
   have ep : cf p i = p[i]:=by simp [cf,List.getD,List.getElem?_eq_getElem g]
   have eq : cf q i = q[i]'(by omega):=by simp [cf,List.getD,List.getElem?_eq_getElem (show i < q.length by omega)]
   refine And.intro (by kernel_rfl) ?_
   repeat (first | refine gT ?_ | refine gF ?_ | refine brT ?_ | refine brF ?_ | refine And.intro rfl ?_)
   refine And.intro (Int.natCast_nonneg i) (Exists.intro _ (And.intro (idx_nat rfl g) ?_))
   repeat (first | refine gT ?_ | refine gF ?_ | refine brT ?_ | refine brF ?_ | refine And.intro rfl ?_)
   refine And.intro (Int.natCast_nonneg i) (Exists.intro _ (And.intro (idx_nat rfl (by omega)) ?_))
   repeat (first | refine gT ?_ | refine gF ?_ | refine brT ?_ | refine brF ?_ | refine And.intro rfl ?_)
   by_cases e : cf p i = cf q i
   ·rw [decide_eq_true e] at s
    first | refine Exists.intro _ (And.intro (s) ?_) | refine Hn_by (Exists.intro _ (And.intro (s) ?_))
    repeat (first | refine gT ?_ | refine gF ?_ | refine brT ?_ | refine brF ?_ | refine And.intro rfl ?_)
    refine hP (i + 1) _ (le_by ⟨rfl,rfl,int_eq (show w64 ((i : Int) + 1) = _ from w64_nat (by omega) (by omega)),trivial⟩ trivial (Nat.le_refl _)) ⟨g,?_⟩ (by omega)
    rw [List.take_add_one,List.take_add_one,ht,List.getElem?_eq_getElem g,List.getElem?_eq_getElem (show i < q.length by omega),<- ep,<- eq,e]
   ·rw [decide_eq_false e] at s
    first | refine Exists.intro _ (And.intro (s) ?_) | refine Hn_by (Exists.intro _ (And.intro (s) ?_))
    repeat (first | refine gT ?_ | refine gF ?_ | refine brT ?_ | refine brF ?_ | refine And.intro rfl ?_)
    have ed : decide (p = q) = false:=decide_eq_false fun h => e (by rw [h])
    rw [ed]
    exact And.intro (Or.inr rfl) rfl
  ·have g : ¬ i < p.length:=by have : ¬ (i : Int) < ((p.map rv).length : Int):=g; omega
   clear hP
   rw [List.take_of_length_le (by omega),List.take_of_length_le (by omega)] at ht
   have ed : decide (p = q) = true:=decide_eq_true ht
   rw [ed]
   exact And.intro (Or.inr rfl) rfl
 ·rw [decide_eq_false (fun h => hn (by rw [h]))]
  refine spec_fn T_ok mixed_ok 0 Tryz.func20 fn_ok20 (by kernel_rfl) ?_
  refine brN (fun _ => ?_) (fun g => absurd (show ((p.map rv).length : Int) = ((q.map rv).length : Int) from g) (by omega))
  exact And.intro (Or.inr rfl) rfl
end Ab
