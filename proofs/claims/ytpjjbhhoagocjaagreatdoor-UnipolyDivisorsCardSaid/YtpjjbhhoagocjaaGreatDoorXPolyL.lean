import Derived.Test.YtpjjbhhoagocjaaGreatDoorXBase03
open Go Go.Proofs
namespace Ab
set_option maxRecDepth 100000
set_option maxHeartbeats 1000000
def coefs (l : List Int) (n : Nat) : List Int:=(l.take n).map fun x => pickU x 101 - 50
def lastP (c : List Int) : Nat -> Nat
 | 0 => 0
 | i + 1 => if c.getD i 0 = 0 then lastP c i else i + 1
def toQ (c : List Int) : List Rat:=c.map fun n : Int => (n : Rat)
def polyQ (l : List Int) (n : Nat) : List Rat:=(toQ (coefs l n)).take (lastP (coefs l n) (coefs l n).length)
def hV : List Rat -> AV
 | [] => .nil
 | r :: p => .ms 0 0 (r :: p).length
def hH : List Rat -> List (Nat × Blk)
 | [] => []
 | r :: p => [(0,.arr (34,4) ((r :: p).map rv) true)]
def I64 (x : Int) : Prop:=-9223372036854775808 <= x ∧ x <= 9223372036854775807
theorem toQ_len (c : List Int) : (toQ c).length = c.length:=by simp [toQ]
theorem toQ_at {c : List Int} {i : Nat} (h : i < c.length) : (toQ c)[i]? = some ((c.getD i 0 : Int) : Rat):=by
 unfold toQ
 rw [List.getElem?_map,List.getElem?_eq_getElem h]
 simp [List.getD,List.getElem?_eq_getElem h]
theorem coefs_len (l : List Int) (n : Nat) : (coefs l n).length = min n l.length:=by simp [coefs]
theorem coefs_at {l : List Int} {n i : Nat} (h : i < n) (h2 : i < l.length) : (coefs l n).getD i 0 = pickU (l.getD i 0) 101 - 50:=by
 simp [coefs,List.getD,List.getElem?_map,h,List.getElem?_eq_getElem h2]
theorem coefs_bd {l : List Int} {n : Nat} {x : Int} (h : x ∈ coefs l n) : -50 <= x ∧ x <= 50:=by
 unfold coefs at h
 obtain ⟨y,_,rfl⟩:=List.mem_map.1 h
 have:=pickU_bd (x:=y) (n:=101) (by decide)
 omega
theorem lastP_le (c : List Int) : ∀ i,lastP c i <= i
 | 0 => Nat.le_refl 0
 | i + 1 => by unfold lastP; have:=lastP_le c i; split <;> omega
theorem lawPoly_spec (gl : List (Nat × AV)) {l : List Int} {n : Nat} (hl : ∀ x ∈ l,I64 x) (hll : l.length <= 9223372036854775807) (hn : n <= 60) : Spec Tryz.prog gl 15 [.sl (irows .i64 l),.int .i64 (n : Int)] (polyV (polyQ l n)):=by
 have ll : (((irows .i64 l).length : Nat) : Int) = l.length:=by rw [irows_len]
 have lc:=coefs_len l n
 obtain ⟨c,hc⟩ : ∃ c,c = coefs l n:=⟨_,rfl⟩
 unfold polyQ
 rw [<- hc] at lc ⊢
 refine spec_fn T_ok mixed_ok 0 Tryz.func15 fn_ok15 (by kernel_rfl) ?_
 refine aw_loopN 0 (fun h : List Rat => stOf [(0,.sl (irows .i64 l)),(1,.int .i64 (n : Int)),(5,hV h),(6,.int .i64 (lastP c h.length : Int)),(7,.int .i64 (h.length : Int))] (hH h) 1)
  (fun h => h.length <= c.length ∧ h = (toQ c).take h.length) (fun h => c.length - h.length) [] ⟨Nat.zero_le _,rfl⟩
  (.inl (le_by ⟨rfl,rfl,rfl,rfl,rfl,trivial⟩ trivial (show 0 <= 1 by decide))) (by kernel_rfl) ?_
 rintro h ⟨hi,hh⟩ P hP
 refine br (fun g => ?_) (fun g => ?_)
 ·have g : h.length < l.length:=by have : (h.length : Int) < ((irows .i64 l).length : Int):=g; omega
  repeat (first | refine gT ?_ | refine gF ?_ | refine brT ?_ | refine brF ?_)
  refine br (fun g2 => ?_) (fun g2 => ?_)
  ·have g2 : h.length < n:=Int.ofNat_lt.1 g2
   obtain ⟨i,hii⟩ : ∃ i,i = h.length:=⟨_,rfl⟩
   rw [<- hii] at hi hh g g2
   have gc : i < c.length:=by omega
   obtain ⟨x,hx⟩ : ∃ x,l[i]? = some x:=⟨l[i],List.getElem?_eq_getElem g⟩
   have hx2 : l.getD i 0 = x:=by simp [List.getD,hx]
   have ix:=hl x (List.mem_of_getElem? hx)
   have pk:=pick_uni gl (x:=x) (n:=101) ix.1 ix.2 (by decide)
   have bd:=pickU_bd (x:=x) (n:=101) (by decide)
   obtain ⟨v,hv⟩ : ∃ v,v = pickU x 101 - 50:=⟨_,rfl⟩
   have wv : w64 (pickU x 101 - 50) = v:=by rw [w64_eq (by omega),hv]
   have cv' : c.getD i 0 = v:=by rw [hc,coefs_at g2 g,hx2,hv]
   have nm:=number_spec gl (n:=v) (by omega) (by omega)
   have hn2 : h ++ [(v : Rat)] = (toQ c).take (h ++ [(v : Rat)]).length:=by
    rw [List.length_append,List.length_singleton,<- hii,List.take_add_one,toQ_at gc,cv',<- hh]; rfl
   have hl2 : (h ++ [(v : Rat)]).length = i + 1:=by rw [List.length_append,List.length_singleton,<- hii]
   have hw : w64 ((i : Int) + 1) = (((h ++ [(v : Rat)]).length : Nat) : Int):=by rw [hl2]; exact w64_nat (by omega) (by omega)
   have hla : lastP c (h ++ [(v : Rat)]).length = if v = 0 then lastP c i else i + 1:=by rw [hl2]; simp only [lastP,cv']
   rw [<- wv] at nm
   rw [<- hii]
   match h,hii with
   | [],hii =>
    refine And.intro (Int.natCast_nonneg i) (Exists.intro _ (And.intro (nat_at (irows_at hx)) ?_))
    first | refine Exists.intro _ (And.intro (pk) ?_) | refine Hn_by (Exists.intro _ (And.intro (pk) ?_))
    first | refine Exists.intro _ (And.intro (nm) ?_) | refine Hn_by (Exists.intro _ (And.intro (nm) ?_))
    refine And.intro (by decide) (And.intro (by decide) (And.intro (show 1 <= maxLen by simp [maxLen]) (And.intro (Nat.le_refl 1) ?_)))
    have hla' : lastP c [(v : Rat)].length = if v = 0 then lastP c i else i + 1:=hla
    have hrow : rv ((w64 (pickU x 101 - 50) : Int) : Rat) = rv (v : Rat):=by rw [wv]
    refine brN (fun e => ?_) (fun e => ?_)
    ·have e : v ≠ 0:=fun h0 => e (wv.trans h0)
     refine hP [(v : Rat)] _ ?_ ⟨by simp at hl2 ⊢; omega,hn2⟩ (by simp at hl2 ⊢; omega)
     exact leR_by [(0,2)] [] rfl rfl (by decide) ⟨.inl rfl,rfl,⟨by decide,rfl⟩,int_eq (show w64 ((i : Int) + 1) = _ by rw [hla',if_neg e]; exact w64_nat (by omega) (by omega)),int_eq hw,trivial⟩ ⟨⟨rfl,trivial,(show some (Blk.arr (34,4) [rv ((w64 (pickU x 101 - 50) : Int) : Rat)] true) = _ by rw [hrow]; rfl)⟩,trivial⟩
    ·have e : v = 0:=wv.symm.trans e
     refine hP [(v : Rat)] _ ?_ ⟨by simp at hl2 ⊢; omega,hn2⟩ (by simp at hl2 ⊢; omega)
     exact leR_by [(0,2)] [] rfl rfl (by decide) ⟨.inl rfl,rfl,⟨by decide,rfl⟩,int_eq (show ((lastP c i : Nat) : Int) = _ by rw [hla',if_pos e]),int_eq hw,trivial⟩ ⟨⟨rfl,trivial,(show some (Blk.arr (34,4) [rv ((w64 (pickU x 101 - 50) : Int) : Rat)] true) = _ by rw [hrow]; rfl)⟩,trivial⟩
   | r :: h,hii =>
    have hm : (r :: h).length = ((r :: h).map rv).length:=(List.length_map _).symm
    refine And.intro (Int.natCast_nonneg i) (Exists.intro _ (And.intro (nat_at (irows_at hx)) ?_))
    first | refine Exists.intro _ (And.intro (pk) ?_) | refine Hn_by (Exists.intro _ (And.intro (pk) ?_))
    first | refine Exists.intro _ (And.intro (nm) ?_) | refine Hn_by (Exists.intro _ (And.intro (nm) ?_))
    refine And.intro hm (And.intro (Nat.le_refl 1) (And.intro (show ((r :: h).length + 1) * 64 <= 140737488355328 by omega) (And.intro (show (r :: h).length + 1 <= maxLen by simp only [maxLen]; omega) ?_)))
    have hrow : (r :: h).map rv ++ [rv ((w64 (pickU x 101 - 50) : Int) : Rat)] = ((r :: h) ++ [(v : Rat)]).map rv:=by rw [wv,List.map_append]; rfl
    have hms : AV.ms 2 0 ((r :: h).length + 1) = AV.ms 2 0 ((r :: h) ++ [(v : Rat)]).length:=by rw [List.length_append]; rfl
    refine brN (fun e => ?_) (fun e => ?_)
    ·have e : v ≠ 0:=fun h0 => e (wv.trans h0)
     refine hP ((r :: h) ++ [(v : Rat)]) _ ?_ ⟨by omega,hn2⟩ (by omega)
     exact leR_by [(0,2)] [] rfl rfl (by decide) ⟨.inl rfl,rfl,⟨by decide,hms⟩,int_eq (show w64 ((i : Int) + 1) = _ by rw [hla,if_neg e]; exact w64_nat (by omega) (by omega)),int_eq hw,trivial⟩ ⟨⟨rfl,trivial,(show some (Blk.arr (34,4) ((r :: h).map rv ++ [rv ((w64 (pickU x 101 - 50) : Int) : Rat)]) true) = some (Blk.arr (34,4) (((r :: h) ++ [(v : Rat)]).map rv) true) by rw [hrow])⟩,trivial⟩
    ·have e : v = 0:=wv.symm.trans e
     refine hP ((r :: h) ++ [(v : Rat)]) _ ?_ ⟨by omega,hn2⟩ (by omega)
     exact leR_by [(0,2)] [] rfl rfl (by decide) ⟨.inl rfl,rfl,⟨by decide,hms⟩,int_eq (show ((lastP c i : Nat) : Int) = _ by rw [hla,if_pos e]),int_eq hw,trivial⟩ ⟨⟨rfl,trivial,(show some (Blk.arr (34,4) ((r :: h).map rv ++ [rv ((w64 (pickU x 101 - 50) : Int) : Rat)]) true) = some (Blk.arr (34,4) (((r :: h) ++ [(v : Rat)]).map rv) true) by rw [hrow])⟩,trivial⟩
  ·have g2 : ¬ h.length < n:=fun e => g2 (Int.ofNat_lt.2 e)
   repeat (first | refine gT ?_ | refine gF ?_ | refine brT ?_ | refine brF ?_)
   have ef : h.length = c.length:=by omega
   rw [ef,List.take_of_length_le (by rw [toQ_len]; omega)] at hh
   have le:=lastP_le c c.length
   rw [ef]
   match h,hh,ef with
   | [],hh,ef =>
    have c0 : c.length = 0:=by rw [<- ef]; rfl
    refine And.intro (Int.natCast_nonneg _) (And.intro (show ((lastP c c.length : Nat) : Int) <= ((0 : Nat) : Int) by omega) ?_)
    rw [show polyV ((toQ c).take (lastP c c.length)) = polyV [] by rw [<- hh,List.take_nil]]
    exact And.intro (Or.inr rfl) rfl
   | r :: h,hh,ef =>
    have hm : ((r :: h).map rv).length = c.length:=by rw [List.length_map]; exact ef
    refine And.intro (Int.natCast_nonneg _) (And.intro (show ((lastP c c.length : Nat) : Int) <= (((r :: h).length : Nat) : Int) by omega) ?_)
    refine And.intro (Or.inr rfl) (And.intro (show 0 + 0 + (((lastP c c.length : Nat) : Int).toNat - 0) <= ((r :: h).map rv).length by omega) ?_)
    show AV.sl ((((r :: h).map rv).drop (0 + 0)).take (((lastP c c.length : Nat) : Int).toNat - 0)) = _
    rw [Nat.add_zero,List.drop_zero,Nat.sub_zero,Int.toNat_natCast,<- List.map_take,hh]
 ·have g : ¬ h.length < l.length:=by have : ¬ (h.length : Int) < ((irows .i64 l).length : Int):=g; omega
  have ef : h.length = c.length:=by omega
  repeat (first | refine gT ?_ | refine gF ?_ | refine brT ?_ | refine brF ?_)
  rw [ef,List.take_of_length_le (by rw [toQ_len]; omega)] at hh
  have le:=lastP_le c c.length
  rw [ef]
  match h,hh,ef with
  | [],hh,ef =>
   have c0 : c.length = 0:=by rw [<- ef]; rfl
   refine And.intro (Int.natCast_nonneg _) (And.intro (show ((lastP c c.length : Nat) : Int) <= ((0 : Nat) : Int) by omega) ?_)
   rw [show polyV ((toQ c).take (lastP c c.length)) = polyV [] by rw [<- hh,List.take_nil]]
   exact And.intro (Or.inr rfl) rfl
  | r :: h,hh,ef =>
   have hm : ((r :: h).map rv).length = c.length:=by rw [List.length_map]; exact ef
   refine And.intro (Int.natCast_nonneg _) (And.intro (show ((lastP c c.length : Nat) : Int) <= (((r :: h).length : Nat) : Int) by omega) ?_)
   refine And.intro (Or.inr rfl) (And.intro (show 0 + 0 + (((lastP c c.length : Nat) : Int).toNat - 0) <= ((r :: h).map rv).length by omega) ?_)
   show AV.sl ((((r :: h).map rv).drop (0 + 0)).take (((lastP c c.length : Nat) : Int).toNat - 0)) = _
   rw [Nat.add_zero,List.drop_zero,Nat.sub_zero,Int.toNat_natCast,<- List.map_take,hh]
end Ab
