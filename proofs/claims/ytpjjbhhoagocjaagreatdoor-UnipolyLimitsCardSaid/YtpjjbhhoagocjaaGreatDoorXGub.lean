import Derived.Test.YtpjjbhhoagocjaaGreatDoorXGx
import Derived.Test.YtpjjbhhoagocjaaGreatDoorXShapeR
section
open Go Go.Proofs
namespace Ab
set_option maxRecDepth 100000
set_option maxHeartbeats 1000000
theorem number_spec (gl : List (Nat × AV)) {n : Int} (h0 : -1000000 <= n) (h1 : n <= 1000000) : Spec Tryz.prog gl 19 [.int .i64 n] (rV (n : Rat)):=by
 have o:=rof_int gl (n:=n) (d:=1) (by omega) (by omega) (by decide) (by decide)
 rw [rV_int] at o
 unfold rV rv at o ⊢
 refine spec_fn T_ok mixed_ok 0 Tryz.func19 fn_ok19 (by kernel_rfl) ?_
 first | refine Exists.intro _ (And.intro (o) ?_) | refine Hn_by (Exists.intro _ (And.intro (o) ?_))
 exact And.intro (Or.inr rfl) rfl
theorem linear_spec (gl : List (Nat × AV)) {n : Int} (h0 : -1000000 <= n) (h1 : n <= 1000000) : Spec Tryz.prog gl 22 [.int .i64 n] (polyV [((-n : Int) : Rat),1]):=by
 have s1:=number_spec gl (n:=-n) (by omega) (by omega)
 have s2 : Spec Tryz.prog gl 19 [.int .i64 1] (rV 1):=number_spec gl (n:=1) (by decide) (by decide)
 have e : w64 (0 - n) = -n:=by rw [w64_eq (by omega)]; omega
 rw [<- e] at s1
 rw [<- e]
 refine spec_fn T_ok mixed_ok 0 Tryz.func22 fn_ok22 (by kernel_rfl) ?_
 first | refine Exists.intro _ (And.intro (s1) ?_) | refine Hn_by (Exists.intro _ (And.intro (s1) ?_))
 first | refine Exists.intro _ (And.intro (s2) ?_) | refine Hn_by (Exists.intro _ (And.intro (s2) ?_))
 repeat (first | refine gT ?_ | refine gF ?_ | refine brT ?_ | refine brF ?_)
 exact And.intro (Or.inr rfl) (And.intro (Nat.le_refl 2) rfl)
def pickU (x n : Int) : Int:=(if x < 0 then -(x + 1) else x) % n
theorem pickU_bd {x n : Int} (hn : 0 < n) : 0 <= pickU x n∧pickU x n < n:=⟨Int.emod_nonneg _ (by omega),Int.emod_lt_of_pos _ hn⟩
theorem pick_uni (gl : List (Nat × AV)) {x n : Int} (h0 : -9223372036854775808 <= x) (h1 : x <= 9223372036854775807) (hn : 0 < n) : Spec Tryz.prog gl 23 [.int .i64 x,.int .i64 n] (.int .i64 (pickU x n)):=by
 refine spec_fn T_ok mixed_ok 0 Tryz.func23 fn_ok23 (by kernel_rfl) ?_
 refine br (fun g => ?_) (fun g => ?_)
 ·have e : w64 (0 - w64 (x + 1)) = -(x + 1):=by rw [w64_eq (n:=x + 1) (by omega),w64_eq (by omega)]; omega
  refine And.intro (by omega) ?_
  refine And.intro (Or.inr rfl) ?_
  show AV.int .i64 ((w64 (0 - w64 (x + 1))).tmod n) = _
  rw [e,Int.tmod_eq_emod_of_nonneg (by omega)]
  unfold pickU; rw [if_pos g]
 ·refine And.intro (by omega) ?_
  refine And.intro (Or.inr rfl) ?_
  show AV.int .i64 (x.tmod n) = _
  rw [Int.tmod_eq_emod_of_nonneg (by omega)]
  unfold pickU; rw [if_neg g]
theorem rv_inj {a b : Rat} (h : rv a = rv b) : a = b:=by
 obtain ⟨h1,h2⟩:=qr_inj h
 exact Rat.ext h1 (Int.ofNat.inj h2)
theorem sameRat_spec (gl : List (Nat × AV)) {a b : Rat} (ha : RF a) : Spec Tryz.prog gl 18 [rV a,rV b] (.bool (decide (a = b))):=by
 have s:=same3_spec gl (a:=decide (a.num < 0)) (b:=decide ((a.den : Int) < 0)) (c:=decide (b.num < 0)) (d:=decide ((b.den : Int) < 0)) (l:=Dg.mag (az a.num)) (m:=Dg.mag (az (a.den : Int))) (l':=Dg.mag (az b.num)) (m':=Dg.mag (az (b.den : Int))) (by have:=ha.1; unfold Fits at this; omega) (by have:=ha.2; unfold Fits at this; omega)
 rw [show same ([.bool (decide (a.num < 0)),lim (Dg.mag (az a.num)),.bool (decide ((a.den : Int) < 0)),lim (Dg.mag (az (a.den : Int)))] : List AV) [.bool (decide (b.num < 0)),lim (Dg.mag (az b.num)),.bool (decide ((b.den : Int) < 0)),lim (Dg.mag (az (b.den : Int)))] = decide (a = b) from same_of (by
  rw [decide_eq_true_iff]
  exact ⟨fun e => by rw [e],fun e => rv_inj e⟩)] at s
 exact s
theorem sameL_spec (gl : List (Nat × AV)) {p q : List Rat} (hp : AllRF p) (_hl : p.length <= 1000000) (hl2 : q.length <= 1000000) : Spec Tryz.prog gl 20 [polyV p,polyV q] (.bool (decide (p = q))):=by
 have lp:=poly_len p
 have lq:=poly_len q
 by_cases hn : p.length = q.length
 ·refine spec_fn T_ok mixed_ok 0 Tryz.func20 fn_ok20 (by kernel_rfl) ?_
  refine brN (fun g => absurd (show ((p.map rv).length : Int) = ((q.map rv).length : Int) by omega) g) (fun _ => ?_)
  refine aw_loop (fun i : Nat => stOf [(0,polyV p),(1,polyV q),(5,.int .i64 (i : Int))] [] 0) (fun i => i <= p.length∧p.take i = q.take i) (fun i => p.length - i) 0 ⟨Nat.zero_le _,rfl⟩
   (le_by ⟨rfl,rfl,rfl,trivial⟩ trivial (Nat.le_refl _)) ?_
  rintro i ⟨hi,ht⟩ P hP
  refine br (fun g => ?_) (fun g => ?_)
  ·have g : i < p.length:=by have : (i : Int) < ((p.map rv).length : Int):=g; omega
   have s:=sameRat_spec gl (a:=cf p i) (b:=cf q i) (hp.at g)
   have ep : cf p i = p[i]:=by simp [cf,List.getD,List.getElem?_eq_getElem g]
   have eq : cf q i = q[i]'(by omega):=by simp [cf,List.getD,List.getElem?_eq_getElem (show i < q.length by omega)]
   refine And.intro (by kernel_rfl) ?_
   repeat (first | refine gT ?_ | refine gF ?_ | refine brT ?_ | refine brF ?_ | refine And.intro rfl ?_)
   refine And.intro (Int.natCast_nonneg i) (Exists.intro _ (And.intro (idx_nat rfl g) ?_))
   repeat (first | refine gT ?_ | refine gF ?_ | refine brT ?_ | refine brF ?_ | refine And.intro rfl ?_)
   refine And.intro (Int.natCast_nonneg i) (Exists.intro _ (And.intro (idx_nat rfl (by omega)) ?_))
   repeat (first | refine gT ?_ | refine gF ?_ | refine brT ?_ | refine brF ?_ | refine And.intro rfl ?_)
   by_cases e : cf p i = cf q i
   ·rw [decide_eq_true e] at s
    first | refine Exists.intro _ (And.intro (s) ?_) | refine Hn_by (Exists.intro _ (And.intro (s) ?_))
    repeat (first | refine gT ?_ | refine gF ?_ | refine brT ?_ | refine brF ?_ | refine And.intro rfl ?_)
    refine hP (i + 1) _ (le_by ⟨rfl,rfl,int_eq (show w64 ((i : Int) + 1) = _ from w64_nat (by omega) (by omega)),trivial⟩ trivial (Nat.le_refl _)) ⟨g,?_⟩ (by omega)
    rw [List.take_add_one,List.take_add_one,ht,List.getElem?_eq_getElem g,List.getElem?_eq_getElem (show i < q.length by omega),<- ep,<- eq,e]
   ·rw [decide_eq_false e] at s
    first | refine Exists.intro _ (And.intro (s) ?_) | refine Hn_by (Exists.intro _ (And.intro (s) ?_))
    repeat (first | refine gT ?_ | refine gF ?_ | refine brT ?_ | refine brF ?_ | refine And.intro rfl ?_)
    have ed : decide (p = q) = false:=decide_eq_false fun h => e (by rw [h])
    rw [ed]
    exact And.intro (Or.inr rfl) rfl
  ·have g : ¬ i < p.length:=by have : ¬ (i : Int) < ((p.map rv).length : Int):=g; omega
   clear hP
   rw [List.take_of_length_le (by omega),List.take_of_length_le (by omega)] at ht
   have ed : decide (p = q) = true:=decide_eq_true ht
   rw [ed]
   exact And.intro (Or.inr rfl) rfl
 ·rw [decide_eq_false (fun h => hn (by rw [h]))]
  refine spec_fn T_ok mixed_ok 0 Tryz.func20 fn_ok20 (by kernel_rfl) ?_
  refine brN (fun _ => ?_) (fun g => absurd (show ((p.map rv).length : Int) = ((q.map rv).length : Int) from g) (by omega))
  exact And.intro (Or.inr rfl) rfl
end Ab
end
section
open Go Go.Proofs
namespace Ab
set_option maxRecDepth 100000
set_option maxHeartbeats 1000000
def coefs (l : List Int) (n : Nat) : List Int:=(l.take n).map fun x => pickU x 101 - 50
def lastP (c : List Int) : Nat -> Nat
 | 0 => 0
 | i + 1 => if c.getD i 0 = 0 then lastP c i else i + 1
def toQ (c : List Int) : List Rat:=c.map fun n : Int => (n : Rat)
def polyQ (l : List Int) (n : Nat) : List Rat:=(toQ (coefs l n)).take (lastP (coefs l n) (coefs l n).length)
def hV : List Rat -> AV
 | [] => .nil
 | r :: p => .ms 0 0 (r :: p).length
def hH : List Rat -> List (Nat × Blk)
 | [] => []
 | r :: p => [(0,.arr (34,4) ((r :: p).map rv) true)]
def I64 (x : Int) : Prop:=-9223372036854775808 <= x∧x <= 9223372036854775807
theorem toQ_len (c : List Int) : (toQ c).length = c.length:=by simp [toQ]
theorem toQ_at {c : List Int} {i : Nat} (h : i < c.length) : (toQ c)[i]? = some ((c.getD i 0 : Int) : Rat):=by
 unfold toQ
 rw [List.getElem?_map,List.getElem?_eq_getElem h]
 simp [List.getD,List.getElem?_eq_getElem h]
theorem coefs_len (l : List Int) (n : Nat) : (coefs l n).length = min n l.length:=by simp [coefs]
theorem coefs_at {l : List Int} {n i : Nat} (h : i < n) (h2 : i < l.length) : (coefs l n).getD i 0 = pickU (l.getD i 0) 101 - 50:=by
 simp [coefs,List.getD,List.getElem?_map,h,List.getElem?_eq_getElem h2]
theorem lastP_le (c : List Int) : ∀ i,lastP c i <= i
 | 0 => Nat.le_refl 0
 | i + 1 => by unfold lastP; have:=lastP_le c i; split <;> omega
theorem lawPoly_spec (gl : List (Nat × AV)) {l : List Int} {n : Nat} (hl : ∀ x ∈ l,I64 x) (hll : l.length <= 9223372036854775807) (hn : n <= 60) : Spec Tryz.prog gl 15 [.sl (irows .i64 l),.int .i64 (n : Int)] (polyV (polyQ l n)):=by
 have ll : (((irows .i64 l).length : Nat) : Int) = l.length:=by rw [irows_len]
 have lc:=coefs_len l n
 obtain ⟨c,hc⟩ : ∃ c,c = coefs l n:=⟨_,rfl⟩
 unfold polyQ
 rw [<- hc] at lc ⊢
 refine spec_fn T_ok mixed_ok 0 Tryz.func15 fn_ok15 (by kernel_rfl) ?_
 refine aw_loopN 0 (fun h : List Rat => stOf [(0,.sl (irows .i64 l)),(1,.int .i64 (n : Int)),(5,hV h),(6,.int .i64 (lastP c h.length : Int)),(7,.int .i64 (h.length : Int))] (hH h) 1)
  (fun h => h.length <= c.length∧h = (toQ c).take h.length) (fun h => c.length - h.length) [] ⟨Nat.zero_le _,rfl⟩
  (.inl (le_by ⟨rfl,rfl,rfl,rfl,rfl,trivial⟩ trivial (show 0 <= 1 by decide))) (by kernel_rfl) ?_
 rintro h ⟨hi,hh⟩ P hP
 refine br (fun g => ?_) (fun g => ?_)
 ·have g : h.length < l.length:=by have : (h.length : Int) < ((irows .i64 l).length : Int):=g; omega
  repeat (first | refine gT ?_ | refine gF ?_ | refine brT ?_ | refine brF ?_)
  refine br (fun g2 => ?_) (fun g2 => ?_)
  ·have g2 : h.length < n:=Int.ofNat_lt.1 g2
   obtain ⟨i,hii⟩ : ∃ i,i = h.length:=⟨_,rfl⟩
   rw [<- hii] at hi hh g g2
   have gc : i < c.length:=by omega
   obtain ⟨x,hx⟩ : ∃ x,l[i]? = some x:=⟨l[i],List.getElem?_eq_getElem g⟩
   have hx2 : l.getD i 0 = x:=by simp [List.getD,hx]
   have ix:=hl x (List.mem_of_getElem? hx)
   have pk:=pick_uni gl (x:=x) (n:=101) ix.1 ix.2 (by decide)
   have bd:=pickU_bd (x:=x) (n:=101) (by decide)
   obtain ⟨v,hv⟩ : ∃ v,v = pickU x 101 - 50:=⟨_,rfl⟩
   have wv : w64 (pickU x 101 - 50) = v:=by rw [w64_eq (by omega),hv]
   have cv' : c.getD i 0 = v:=by rw [hc,coefs_at g2 g,hx2,hv]
   have nm:=number_spec gl (n:=v) (by omega) (by omega)
   have hn2 : h ++ [(v : Rat)] = (toQ c).take (h ++ [(v : Rat)]).length:=by
    rw [List.length_append,List.length_singleton,<- hii,List.take_add_one,toQ_at gc,cv',<- hh]; rfl
   have hl2 : (h ++ [(v : Rat)]).length = i + 1:=by rw [List.length_append,List.length_singleton,<- hii]
   have hw : w64 ((i : Int) + 1) = (((h ++ [(v : Rat)]).length : Nat) : Int):=by rw [hl2]; exact w64_nat (by omega) (by omega)
   have hla : lastP c (h ++ [(v : Rat)]).length = if v = 0 then lastP c i else i + 1:=by rw [hl2]; simp only [lastP,cv']
   rw [<- wv] at nm
   rw [<- hii]
   match h,hii with
   | [],hii =>
    refine And.intro (Int.natCast_nonneg i) (Exists.intro _ (And.intro (nat_at (irows_at hx)) ?_))
    first | refine Exists.intro _ (And.intro (pk) ?_) | refine Hn_by (Exists.intro _ (And.intro (pk) ?_))
    first | refine Exists.intro _ (And.intro (nm) ?_) | refine Hn_by (Exists.intro _ (And.intro (nm) ?_))
    refine And.intro (by decide) (And.intro (by decide) (And.intro (show 1 <= maxLen by simp [maxLen]) (And.intro (Nat.le_refl 1) ?_)))
    have hla' : lastP c [(v : Rat)].length = if v = 0 then lastP c i else i + 1:=hla
    have hrow : rv ((w64 (pickU x 101 - 50) : Int) : Rat) = rv (v : Rat):=by rw [wv]
    refine brN (fun e => ?_) (fun e => ?_)
    ·have e : v ≠ 0:=fun h0 => e (wv.trans h0)
     refine hP [(v : Rat)] _ ?_ ⟨by simp at hl2 ⊢; omega,hn2⟩ (by simp at hl2 ⊢; omega)
     exact leR_by [(0,2)] [] rfl rfl (by decide) ⟨.inl rfl,rfl,⟨by decide,rfl⟩,int_eq (show w64 ((i : Int) + 1) = _ by rw [hla',if_neg e]; exact w64_nat (by omega) (by omega)),int_eq hw,trivial⟩ ⟨⟨rfl,trivial,(show some (Blk.arr (34,4) [rv ((w64 (pickU x 101 - 50) : Int) : Rat)] true) = _ by rw [hrow]; rfl)⟩,trivial⟩
    ·have e : v = 0:=wv.symm.trans e
     refine hP [(v : Rat)] _ ?_ ⟨by simp at hl2 ⊢; omega,hn2⟩ (by simp at hl2 ⊢; omega)
     exact leR_by [(0,2)] [] rfl rfl (by decide) ⟨.inl rfl,rfl,⟨by decide,rfl⟩,int_eq (show ((lastP c i : Nat) : Int) = _ by rw [hla',if_pos e]),int_eq hw,trivial⟩ ⟨⟨rfl,trivial,(show some (Blk.arr (34,4) [rv ((w64 (pickU x 101 - 50) : Int) : Rat)] true) = _ by rw [hrow]; rfl)⟩,trivial⟩
   | r :: h,hii =>
    have hm : (r :: h).length = ((r :: h).map rv).length:=(List.length_map _).symm
    refine And.intro (Int.natCast_nonneg i) (Exists.intro _ (And.intro (nat_at (irows_at hx)) ?_))
    first | refine Exists.intro _ (And.intro (pk) ?_) | refine Hn_by (Exists.intro _ (And.intro (pk) ?_))
    first | refine Exists.intro _ (And.intro (nm) ?_) | refine Hn_by (Exists.intro _ (And.intro (nm) ?_))
    refine And.intro hm (And.intro (Nat.le_refl 1) (And.intro (show ((r :: h).length + 1) * 64 <= 140737488355328 by omega) (And.intro (show (r :: h).length + 1 <= maxLen by simp only [maxLen]; omega) ?_)))
    have hrow : (r :: h).map rv ++ [rv ((w64 (pickU x 101 - 50) : Int) : Rat)] = ((r :: h) ++ [(v : Rat)]).map rv:=by rw [wv,List.map_append]; rfl
    have hms : AV.ms 2 0 ((r :: h).length + 1) = AV.ms 2 0 ((r :: h) ++ [(v : Rat)]).length:=by rw [List.length_append]; rfl
    refine brN (fun e => ?_) (fun e => ?_)
    ·have e : v ≠ 0:=fun h0 => e (wv.trans h0)
     refine hP ((r :: h) ++ [(v : Rat)]) _ ?_ ⟨by omega,hn2⟩ (by omega)
     exact leR_by [(0,2)] [] rfl rfl (by decide) ⟨.inl rfl,rfl,⟨by decide,hms⟩,int_eq (show w64 ((i : Int) + 1) = _ by rw [hla,if_neg e]; exact w64_nat (by omega) (by omega)),int_eq hw,trivial⟩ ⟨⟨rfl,trivial,(show some (Blk.arr (34,4) ((r :: h).map rv ++ [rv ((w64 (pickU x 101 - 50) : Int) : Rat)]) true) = some (Blk.arr (34,4) (((r :: h) ++ [(v : Rat)]).map rv) true) by rw [hrow])⟩,trivial⟩
    ·have e : v = 0:=wv.symm.trans e
     refine hP ((r :: h) ++ [(v : Rat)]) _ ?_ ⟨by omega,hn2⟩ (by omega)
     exact leR_by [(0,2)] [] rfl rfl (by decide) ⟨.inl rfl,rfl,⟨by decide,hms⟩,int_eq (show ((lastP c i : Nat) : Int) = _ by rw [hla,if_pos e]),int_eq hw,trivial⟩ ⟨⟨rfl,trivial,(show some (Blk.arr (34,4) ((r :: h).map rv ++ [rv ((w64 (pickU x 101 - 50) : Int) : Rat)]) true) = some (Blk.arr (34,4) (((r :: h) ++ [(v : Rat)]).map rv) true) by rw [hrow])⟩,trivial⟩
  ·have g2 : ¬ h.length < n:=fun e => g2 (Int.ofNat_lt.2 e)
   repeat (first | refine gT ?_ | refine gF ?_ | refine brT ?_ | refine brF ?_)
   have ef : h.length = c.length:=by omega
   rw [ef,List.take_of_length_le (by rw [toQ_len]; omega)] at hh
   have le:=lastP_le c c.length
   rw [ef]
   match h,hh,ef with
   | [],hh,ef =>
    have c0 : c.length = 0:=by rw [<- ef]; rfl
    refine And.intro (Int.natCast_nonneg _) (And.intro (show ((lastP c c.length : Nat) : Int) <= ((0 : Nat) : Int) by omega) ?_)
    rw [show polyV ((toQ c).take (lastP c c.length)) = polyV [] by rw [<- hh,List.take_nil]]
    exact And.intro (Or.inr rfl) rfl
   | r :: h,hh,ef =>
    have hm : ((r :: h).map rv).length = c.length:=by rw [List.length_map]; exact ef
    refine And.intro (Int.natCast_nonneg _) (And.intro (show ((lastP c c.length : Nat) : Int) <= (((r :: h).length : Nat) : Int) by omega) ?_)
    refine And.intro (Or.inr rfl) (And.intro (show 0 + 0 + (((lastP c c.length : Nat) : Int).toNat - 0) <= ((r :: h).map rv).length by omega) ?_)
    show AV.sl ((((r :: h).map rv).drop (0 + 0)).take (((lastP c c.length : Nat) : Int).toNat - 0)) = _
    rw [Nat.add_zero,List.drop_zero,Nat.sub_zero,Int.toNat_natCast,<- List.map_take,hh]
 ·have g : ¬ h.length < l.length:=by have : ¬ (h.length : Int) < ((irows .i64 l).length : Int):=g; omega
  have ef : h.length = c.length:=by omega
  repeat (first | refine gT ?_ | refine gF ?_ | refine brT ?_ | refine brF ?_)
  rw [ef,List.take_of_length_le (by rw [toQ_len]; omega)] at hh
  have le:=lastP_le c c.length
  rw [ef]
  match h,hh,ef with
  | [],hh,ef =>
   have c0 : c.length = 0:=by rw [<- ef]; rfl
   refine And.intro (Int.natCast_nonneg _) (And.intro (show ((lastP c c.length : Nat) : Int) <= ((0 : Nat) : Int) by omega) ?_)
   rw [show polyV ((toQ c).take (lastP c c.length)) = polyV [] by rw [<- hh,List.take_nil]]
   exact And.intro (Or.inr rfl) rfl
  | r :: h,hh,ef =>
   have hm : ((r :: h).map rv).length = c.length:=by rw [List.length_map]; exact ef
   refine And.intro (Int.natCast_nonneg _) (And.intro (show ((lastP c c.length : Nat) : Int) <= (((r :: h).length : Nat) : Int) by omega) ?_)
   refine And.intro (Or.inr rfl) (And.intro (show 0 + 0 + (((lastP c c.length : Nat) : Int).toNat - 0) <= ((r :: h).map rv).length by omega) ?_)
   show AV.sl ((((r :: h).map rv).drop (0 + 0)).take (((lastP c c.length : Nat) : Int).toNat - 0)) = _
   rw [Nat.add_zero,List.drop_zero,Nat.sub_zero,Int.toNat_natCast,<- List.map_take,hh]
end Ab
end
