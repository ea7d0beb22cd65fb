import Derived.Test.YtpjjbhhoagocjaaGreatDoorXGz
section
open Go Go.Proofs
namespace Ab
set_option maxRecDepth 100000
set_option maxHeartbeats 1000000
end Ab
end
section
open Go Go.Proofs
namespace Ab
set_option maxRecDepth 100000
set_option maxHeartbeats 1000000
def cmp (p q : List Rat) : Nat -> List Rat
 | 0 => []
 | t + 1 => addP (mulP (cmp p q t) q) (clipP [cf p (p.length - 1 - t)])
def cmV (p q : List Rat) : Nat -> AV
 | 0 => .nil
 | t + 1 => polyV (cmp p q (t + 1))
structure CmpOk (gl : List (Nat × AV)) (p q : List Rat) : Prop where
 l : ∀ t,t < p.length -> (mulP (cmp p q t) q).length <= 65
 m : ∀ t,t < p.length -> Spec Tryz.prog gl 52 [polyV (cmp p q t),polyV q] (polyV (mulP (cmp p q t) q))
 a : ∀ t,t < p.length -> ∀ j,FA (cf (mulP (cmp p q t) q) j) (cf (clipP [cf p (p.length - 1 - t)]) j)
def mgL (p q : List Rat) (cur : AV) (rows : List (List AV)) : List (Nat × Blk):=[(0,.box [polyV q]),(1,.box [cur]),(2,.box [.int .i64 0]),(4,.box [polyV p]),(6,.arr (34,4) rows true)]
theorem merge_at (gl : List (Nat × AV)) {p q M C : List Rat} {cur : AV} {tm : Nat -> AV} {hp : Nat -> Option Blk} {K : AV -> St -> Prop} (n : Nat)
  (h0 : hp 0 = some (.box [polyV q])) (h1 : hp 1 = some (.box [cur])) (h2 : hp 2 = some (.box [.int .i64 0])) (hb : blB 7 (some (Blk.box [cur])) = true) (h4 : hp 4 = some (.box [polyV p]))
  (hM : M.length <= 65) (hC : C.length <= 1) (fa : ∀ j,FA (cf M j) (cf C j))
  (hK : K (polyV (addP M C)) ⟨tm,frzW [6] (stOf [] (mgL p q cur (((List.range (max M.length C.length)).map fun j => cf M j + cf C j).map rv)) 7).hp,7⟩) :
  Hn Tryz.prog T gl (n + 1) (.fn 76) [polyV M,polyV C,.fn 42 []] ⟨tm,hp,6⟩ K:=by
 have lm:=poly_len M
 have lc:=poly_len C
 have o0 : Spec Tryz.prog gl 59 [.int .i64 0] (rV 0):=of_uni gl (n:=0) (by decide) (by decide)
 unfold rV rv at o0
 obtain ⟨N,hN⟩ : ∃ N,N = max M.length C.length:=⟨_,rfl⟩
 rw [<- hN] at hK
 have hn : (if ((M.map rv).length : Int) < ((C.map rv).length : Int) then ((C.map rv).length : Int) else ((M.map rv).length : Int)) = (N : Int):=by rw [lm,lc]; split <;> omega
 refine Hn_in Tryz.f76 Tryz.func76 fn_ok76 (by kernel_rfl) ?_
 refine And.intro (show (0 : Int) <= (if ((M.map rv).length : Int) < ((C.map rv).length : Int) then ((C.map rv).length : Int) else ((M.map rv).length : Int)) by omega) (And.intro (Int.le_refl _) (And.intro (show (if ((M.map rv).length : Int) < ((C.map rv).length : Int) then ((C.map rv).length : Int) else ((M.map rv).length : Int)) * 64 <= 140737488355328 by omega) (And.intro (show (if ((M.map rv).length : Int) < ((C.map rv).length : Int) then ((C.map rv).length : Int) else ((M.map rv).length : Int)) <= ((maxLen : Nat) : Int) by simp only [maxLen]; omega) ?_)))
 refine aw_loopN 7 (fun j : Nat => stOf [(0,polyV M),(1,polyV C),(2,.fn 42 []),(7,.ms 6 0 N),(18,.int .i64 (N : Int)),(19,.int .i64 (j : Int))] [(0,.box [polyV q]),(1,.box [cur]),(2,.box [.int .i64 0]),(4,.box [polyV p]),(6,.arr (34,4) (fillQ (fun j => cf M j + cf C j) N j) true)] 7) (fun j => j <= N) (fun j => N - j) 0 (Nat.zero_le _)
  (.inl (le_by ⟨rfl,rfl,rfl,(show AV.ms 6 0 (if ((M.map rv).length : Int) < ((C.map rv).length : Int) then ((C.map rv).length : Int) else ((M.map rv).length : Int)).toNat = _ by rw [hn]; rfl),(show AV.int .i64 ((if ((M.map rv).length : Int) < ((C.map rv).length : Int) then ((C.map rv).length : Int) else ((M.map rv).length : Int)).toNat : Int) = _ by rw [hn]; rfl),rfl,trivial⟩ ⟨h0,h1,h2,h4,(show some (Blk.arr (34,4) (List.replicate (if ((M.map rv).length : Int) < ((C.map rv).length : Int) then ((C.map rv).length : Int) else ((M.map rv).length : Int)).toNat z4) true) = _ by rw [hn,fill_zero]; rfl),trivial⟩ (Nat.le_refl _))) (by kernel_rfl) ?_
 intro j hj R hR
 refine br (fun g => ?_) (fun g => ?_)
 ·have g : j < N:=Int.ofNat_lt.1 g
  have ad:=add_rat gl (fa j)
  have mu:=must_spec gl ((fun j => cf M j + cf C j) j)
  unfold rV rv at ad mu
  first | refine Exists.intro _ (And.intro (o0) ?_) | refine Hn_by (Exists.intro _ (And.intro (o0) ?_))
  first | refine Exists.intro _ (And.intro (o0) ?_) | refine Hn_by (Exists.intro _ (And.intro (o0) ?_))
  refine br (fun g1 => ?_) (fun g1 => ?_)
  ·have g1 : j < M.length:=by have : (j : Int) < ((M.map rv).length : Int):=g1; omega
   refine And.intro (Int.natCast_nonneg j) (Exists.intro _ (And.intro (idx_nat rfl g1) ?_))
   refine br (fun g2 => ?_) (fun g2 => ?_)
   ·have g2 : j < C.length:=by have : (j : Int) < ((C.map rv).length : Int):=g2; omega
    refine And.intro (Int.natCast_nonneg j) (Exists.intro _ (And.intro (idx_nat rfl g2) ?_))
    repeat (first | refine gT ?_ | refine gF ?_ | refine brT ?_ | refine brF ?_)
    first | refine Exists.intro _ (And.intro (ad) ?_) | refine Hn_by (Exists.intro _ (And.intro (ad) ?_))
    repeat (first | refine gT ?_ | refine gF ?_ | refine brT ?_ | refine brF ?_)
    first | refine Exists.intro _ (And.intro (mu) ?_) | refine Hn_by (Exists.intro _ (And.intro (mu) ?_))
    repeat (first | refine gT ?_ | refine gF ?_ | refine brT ?_ | refine brF ?_)
    refine And.intro (Int.natCast_nonneg j) (And.intro (show (j : Int) < (N : Int) by omega) ?_)
    obtain ⟨a,b,c,d,hr⟩:=fill_at (fun j => cf M j + cf C j) N j g
    refine Exists.intro _ (And.intro (show (fillQ (fun j => cf M j + cf C j) N j)[0 + (j : Int).toNat]? = some [a,b,c,d] by rw [Nat.zero_add,Int.toNat_natCast]; exact hr) ?_)
    refine hR (j + 1) _ (leC_by ⟨⟨rfl,rfl⟩,⟨rfl,rfl⟩,⟨rfl,rfl⟩,⟨rfl,rfl⟩,⟨rfl,rfl⟩,⟨int_eq ?_,rfl⟩,trivial⟩ ⟨⟨⟨rfl,rfl⟩,rfl⟩,⟨⟨rfl,rfl⟩,hb⟩,⟨⟨rfl,rfl⟩,rfl⟩,⟨⟨rfl,rfl⟩,rfl⟩,⟨⟨?_,rfl⟩,rfl⟩,trivial⟩ (Nat.le_refl _)) g (by omega)
    ·show w64 ((j : Int) + 1) = _
     exact w64_nat (by omega) (by omega)
    ·show some (Blk.arr (34,4) ((fillQ (fun j => cf M j + cf C j) N j).set (0 + (j : Int).toNat) (rv ((fun j => cf M j + cf C j) j))) true) = _
     rw [Nat.zero_add,Int.toNat_natCast,fill_set g]
   ·have g2 : C.length <= j:=by have : ¬ (j : Int) < ((C.map rv).length : Int):=g2; omega
    rw [show AV.agg (qr (cf C j).num ((cf C j).den : Int)) = AV.agg (qr (0 : Rat).num ((0 : Rat).den : Int)) by rw [cf_out g2]] at ad
    repeat (first | refine gT ?_ | refine gF ?_ | refine brT ?_ | refine brF ?_)
    first | refine Exists.intro _ (And.intro (ad) ?_) | refine Hn_by (Exists.intro _ (And.intro (ad) ?_))
    repeat (first | refine gT ?_ | refine gF ?_ | refine brT ?_ | refine brF ?_)
    first | refine Exists.intro _ (And.intro (mu) ?_) | refine Hn_by (Exists.intro _ (And.intro (mu) ?_))
    repeat (first | refine gT ?_ | refine gF ?_ | refine brT ?_ | refine brF ?_)
    refine And.intro (Int.natCast_nonneg j) (And.intro (show (j : Int) < (N : Int) by omega) ?_)
    obtain ⟨a,b,c,d,hr⟩:=fill_at (fun j => cf M j + cf C j) N j g
    refine Exists.intro _ (And.intro (show (fillQ (fun j => cf M j + cf C j) N j)[0 + (j : Int).toNat]? = some [a,b,c,d] by rw [Nat.zero_add,Int.toNat_natCast]; exact hr) ?_)
    refine hR (j + 1) _ (leC_by ⟨⟨rfl,rfl⟩,⟨rfl,rfl⟩,⟨rfl,rfl⟩,⟨rfl,rfl⟩,⟨rfl,rfl⟩,⟨int_eq ?_,rfl⟩,trivial⟩ ⟨⟨⟨rfl,rfl⟩,rfl⟩,⟨⟨rfl,rfl⟩,hb⟩,⟨⟨rfl,rfl⟩,rfl⟩,⟨⟨rfl,rfl⟩,rfl⟩,⟨⟨?_,rfl⟩,rfl⟩,trivial⟩ (Nat.le_refl _)) g (by omega)
    ·show w64 ((j : Int) + 1) = _
     exact w64_nat (by omega) (by omega)
    ·show some (Blk.arr (34,4) ((fillQ (fun j => cf M j + cf C j) N j).set (0 + (j : Int).toNat) (rv ((fun j => cf M j + cf C j) j))) true) = _
     rw [Nat.zero_add,Int.toNat_natCast,fill_set g]
  ·have g1 : M.length <= j:=by have : ¬ (j : Int) < ((M.map rv).length : Int):=g1; omega
   refine br (fun g2 => ?_) (fun g2 => ?_)
   ·have g2 : j < C.length:=by have : (j : Int) < ((C.map rv).length : Int):=g2; omega
    refine And.intro (Int.natCast_nonneg j) (Exists.intro _ (And.intro (idx_nat rfl g2) ?_))
    rw [show AV.agg (qr (cf M j).num ((cf M j).den : Int)) = AV.agg (qr (0 : Rat).num ((0 : Rat).den : Int)) by rw [cf_out g1]] at ad
    repeat (first | refine gT ?_ | refine gF ?_ | refine brT ?_ | refine brF ?_)
    first | refine Exists.intro _ (And.intro (ad) ?_) | refine Hn_by (Exists.intro _ (And.intro (ad) ?_))
    repeat (first | refine gT ?_ | refine gF ?_ | refine brT ?_ | refine brF ?_)
    first | refine Exists.intro _ (And.intro (mu) ?_) | refine Hn_by (Exists.intro _ (And.intro (mu) ?_))
    repeat (first | refine gT ?_ | refine gF ?_ | refine brT ?_ | refine brF ?_)
    refine And.intro (Int.natCast_nonneg j) (And.intro (show (j : Int) < (N : Int) by omega) ?_)
    obtain ⟨a,b,c,d,hr⟩:=fill_at (fun j => cf M j + cf C j) N j g
    refine Exists.intro _ (And.intro (show (fillQ (fun j => cf M j + cf C j) N j)[0 + (j : Int).toNat]? = some [a,b,c,d] by rw [Nat.zero_add,Int.toNat_natCast]; exact hr) ?_)
    refine hR (j + 1) _ (leC_by ⟨⟨rfl,rfl⟩,⟨rfl,rfl⟩,⟨rfl,rfl⟩,⟨rfl,rfl⟩,⟨rfl,rfl⟩,⟨int_eq ?_,rfl⟩,trivial⟩ ⟨⟨⟨rfl,rfl⟩,rfl⟩,⟨⟨rfl,rfl⟩,hb⟩,⟨⟨rfl,rfl⟩,rfl⟩,⟨⟨rfl,rfl⟩,rfl⟩,⟨⟨?_,rfl⟩,rfl⟩,trivial⟩ (Nat.le_refl _)) g (by omega)
    ·show w64 ((j : Int) + 1) = _
     exact w64_nat (by omega) (by omega)
    ·show some (Blk.arr (34,4) ((fillQ (fun j => cf M j + cf C j) N j).set (0 + (j : Int).toNat) (rv ((fun j => cf M j + cf C j) j))) true) = _
     rw [Nat.zero_add,Int.toNat_natCast,fill_set g]
   ·have g2 : C.length <= j:=by have : ¬ (j : Int) < ((C.map rv).length : Int):=g2; omega
    omega
 ·have g : ¬ j < N:=fun h => g (Int.ofNat_lt.2 h)
  have ej : j = N:=by omega
  subst ej
  rw [fill_full]
  clear hR
  have hml : (((List.range j).map (fun j => cf M j + cf C j)).map rv).length = j:=by simp
  have cl:=clip_spec gl (p:=(List.range j).map (fun j => cf M j + cf C j)) (by
   intro r hr
   obtain ⟨i,hi,rfl⟩:=List.mem_map.1 hr
   exact (fa i).fits) (by simp; omega)
  refine Hn_by (And.intro (show 0 + j <= (((List.range j).map (fun j => cf M j + cf C j)).map rv).length by omega) ?_)
  rw [List.drop_zero,List.take_of_length_le (show (((List.range j).map (fun j => cf M j + cf C j)).map rv).length <= j by omega)]
  refine Exists.intro _ (And.intro cl ?_)
  refine And.intro (Or.inr rfl) ?_
  have ea : mergeP (fun j => cf M j + cf C j) M C = addP M C:=rfl
  unfold mergeP at ea
  rw [<- hN] at ea
  rw [ea]
  repeat (first | refine gT ?_ | refine gF ?_ | refine brT ?_ | refine brF ?_)
  refine (?_ : K (polyV (addP M C)) ⟨tm,frzW [6] (stOf [] (mgL p q cur (((List.range j).map fun j => cf M j + cf C j).map rv)) 7).hp,7⟩)
  exact hK
theorem Compose_spec (gl : List (Nat × AV)) {p q : List Rat} (hp : Poly p) (hq : Poly q) (hd : (p.length - 1) * (q.length - 1) <= 64) (ok : CmpOk gl p q) : Spec Tryz.prog gl 37 [polyV p,polyV q] (.tup [polyV (cmp p q p.length),.int .i64 0]):=by
 have w:=want2 gl hp hq
 have o0 : Spec Tryz.prog gl 59 [.int .i64 0] (rV 0):=of_uni gl (n:=0) (by decide) (by decide)
 have lp:=poly_len p
 have lq:=poly_len q
 have p1:=hp.2.1
 have q1:=hq.2.1
 unfold rV rv at o0
 refine spec_fn T_ok mixed_ok 3 Tryz.func37 fn_ok37 (by kernel_rfl) ?_
 refine Hn_by (And.intro (Nat.le_refl 2) ?_)
 first | refine Exists.intro _ (And.intro (w) ?_) | refine Hn_by (Exists.intro _ (And.intro (w) ?_))
 repeat (first | refine gT ?_ | refine gF ?_ | refine brT ?_ | refine brF ?_)
 refine br (fun g1 => ?_) (fun g1 => ?_)
 ·repeat (first | refine gT ?_ | refine gF ?_ | refine brT ?_ | refine brF ?_)
  refine br (fun g2 => ?_) (fun g2 => ?_)
  ·repeat (first | refine gT ?_ | refine gF ?_ | refine brT ?_ | refine brF ?_)
   refine br (fun g3 => ?_) (fun g3 => ?_)
   ·exact absurd (show w64 (w64 (((p.map rv).length : Int) - 1) * w64 (((q.map rv).length : Int) - 1)) > 64 from g3) (by
     have g1 : ((p.map rv).length : Int) > 0:=g1
     have g2 : ((q.map rv).length : Int) > 0:=g2
     have e1 : ((p.map rv).length : Int) - 1 = ((p.length - 1 : Nat) : Int):=by omega
     have e2 : ((q.map rv).length : Int) - 1 = ((q.length - 1 : Nat) : Int):=by omega
     have w1 : w64 ((p.length - 1 : Nat) : Int) = ((p.length - 1 : Nat) : Int):=w64_eq (by omega)
     have w2 : w64 ((q.length - 1 : Nat) : Int) = ((q.length - 1 : Nat) : Int):=w64_eq (by omega)
     rw [e1,e2,w1,w2,<- Int.natCast_mul,w64_eq (by omega)]
     omega)
   ·repeat (first | refine gT ?_ | refine gF ?_ | refine brT ?_ | refine brF ?_)
    refine Hn_in Tryz.f68 Tryz.func68 fn_ok68 (by kernel_rfl) ?_
    refine And.intro (Or.inr rfl) ?_
    refine Gn_in Tryz.f119 Tryz.func119 fn_ok119 (by kernel_rfl) fun y => ?_
    refine aw_loopN 5 (fun k : Nat => stOf [(0,.yl y),(1,.bp 4 0),(3,.int .i64 ((k : Int) - 1))] [(0,.box [polyV q]),(1,.box [cmV p q (p.length - k)]),(2,.box [.int .i64 0]),(4,.box [polyV p])] 5) (fun k => k <= p.length) (fun k => k) p.length (Nat.le_refl _)
     (.inl (le_by ⟨rfl,rfl,int_eq ?_,trivial⟩ ⟨rfl,?_,rfl,rfl,trivial⟩ (show 5 <= 5 by decide))) (by kernel_rfl) ?_
    ·show w64 (((p.map rv).length : Int) - 1) = _
     rw [lp,w64_eq (by omega)]
    ·show some (Blk.box [.nil]) = some (Blk.box [cmV p q (p.length - p.length)])
     rw [Nat.sub_self]; rfl
    intro k hk P hP
    cases k with
    | zero =>
     clear hP
     rw [Nat.sub_zero]
     repeat (first | refine gT ?_ | refine gF ?_ | refine brT ?_ | refine brF ?_)
     refine And.intro (Or.inl rfl) ?_
     repeat (first | refine gT ?_ | refine gF ?_ | refine brT ?_ | refine brF ?_)
     refine Or.elim (Nat.eq_zero_or_pos p.length) (fun h0 => ?_) (fun h0 => ?_)
     ·rw [h0]
      exact And.intro (Or.inr rfl) rfl
     ·rw [show p.length = p.length - 1 + 1 by omega]
      exact And.intro (Or.inr rfl) rfl
    | succ k =>
     have e : (((k + 1 : Nat) : Int) - 1) = (k : Int):=by omega
     have ek : p.length - 1 - (p.length - (k + 1)) = k:=by omega
     obtain ⟨t,ht⟩ : ∃ t,t = p.length - (k + 1):=⟨_,rfl⟩
     have ms:=ok.m t (by omega)
     have fa:=ok.a t (by omega)
     have ml:=ok.l t (by omega)
     have eh : cmp p q (p.length - k) = addP (mulP (cmp p q t) q) (clipP [cf p k]):=by
          rw [show p.length - k = t + 1 by omega]
          show _ = _
          rw [cmp,show p.length - 1 - t = k by omega]
     rw [show p.length - 1 - t = k by omega] at fa
     have ck:=clip_spec gl (p:=[cf p k]) (by intro r hr; rw [List.mem_singleton] at hr; rw [hr]; exact hp.1.at (by omega)) (show 1 <= 1000000 by decide)
     rw [e,<- ht]
     refine br (fun _ => ?_) (fun g => absurd (show (k : Int) ≥ 0 by omega) g)
     repeat (first | refine gT ?_ | refine gF ?_ | refine brT ?_ | refine brF ?_)
     refine And.intro (Int.natCast_nonneg k) (Exists.intro _ (And.intro (idx_nat rfl (by omega)) ?_))
     have lc2 : (clipP [cf p k]).length <= 1:=clip_len [cf p k]
     have ev : cmV p q (p.length - k) = polyV (cmp p q (p.length - k)):=by rw [show p.length - k = t + 1 by omega]; rfl
     refine Or.elim (Nat.eq_zero_or_pos t) (fun h0 => ?_) (fun h0 => ?_)
     ·have et : cmV p q t = .nil:=by rw [h0]; rfl
      have et2 : polyV (cmp p q t) = polyV []:=by rw [h0]; rfl
      rw [et]
      rw [et2] at ms
      repeat (first | refine gT ?_ | refine gF ?_ | refine brT ?_ | refine brF ?_)
      refine And.intro (by kernel_rfl) ?_
      repeat (first | refine gT ?_ | refine gF ?_ | refine brT ?_ | refine brF ?_ | refine And.intro rfl ?_)
      first | refine Exists.intro _ (And.intro (ms) ?_) | refine Hn_by (Exists.intro _ (And.intro (ms) ?_))
      repeat (first | refine gT ?_ | refine gF ?_ | refine brT ?_ | refine brF ?_ | refine And.intro rfl ?_)
      first | refine Exists.intro _ (And.intro (ck) ?_) | refine Hn_by (Exists.intro _ (And.intro (ck) ?_))
      repeat (first | refine gT ?_ | refine gF ?_ | refine brT ?_ | refine brF ?_ | refine And.intro rfl ?_)
      refine merge_at (p:=p) (q:=q) (cur:=.nil) gl 2 rfl rfl rfl rfl rfl ml lc2 fa ?_
      repeat (first | refine gT ?_ | refine gF ?_ | refine brT ?_ | refine brF ?_ | refine And.intro rfl ?_)
      refine hP k _ (leC_by ⟨⟨rfl,rfl⟩,⟨rfl,rfl⟩,⟨int_eq ?_,rfl⟩,trivial⟩ ⟨⟨⟨rfl,rfl⟩,rfl⟩,⟨⟨?_,rfl⟩,?_⟩,⟨⟨rfl,rfl⟩,rfl⟩,⟨⟨rfl,rfl⟩,rfl⟩,trivial⟩ (Nat.le_refl _)) (by omega) (by omega)
      ·show w64 ((k : Int) - 1) = _
       rw [w64_eq (by omega)]
      ·show some (Blk.box [polyV (addP (mulP (cmp p q t) q) (clipP [cf p k]))]) = some (Blk.box [cmV p q (p.length - k)])
       rw [ev,eh]
      ·rw [ev]; rfl
     ·have et : cmV p q t = polyV (cmp p q t):=by rw [show t = t - 1 + 1 by omega]; rfl
      rw [et]
      repeat (first | refine gT ?_ | refine gF ?_ | refine brT ?_ | refine brF ?_)
      refine And.intro (by kernel_rfl) ?_
      repeat (first | refine gT ?_ | refine gF ?_ | refine brT ?_ | refine brF ?_ | refine And.intro rfl ?_)
      first | refine Exists.intro _ (And.intro (ms) ?_) | refine Hn_by (Exists.intro _ (And.intro (ms) ?_))
      repeat (first | refine gT ?_ | refine gF ?_ | refine brT ?_ | refine brF ?_ | refine And.intro rfl ?_)
      first | refine Exists.intro _ (And.intro (ck) ?_) | refine Hn_by (Exists.intro _ (And.intro (ck) ?_))
      repeat (first | refine gT ?_ | refine gF ?_ | refine brT ?_ | refine brF ?_ | refine And.intro rfl ?_)
      refine merge_at (p:=p) (q:=q) (cur:=polyV (cmp p q t)) gl 2 rfl rfl rfl rfl rfl ml lc2 fa ?_
      repeat (first | refine gT ?_ | refine gF ?_ | refine brT ?_ | refine brF ?_ | refine And.intro rfl ?_)
      refine hP k _ (leC_by ⟨⟨rfl,rfl⟩,⟨rfl,rfl⟩,⟨int_eq ?_,rfl⟩,trivial⟩ ⟨⟨⟨rfl,rfl⟩,rfl⟩,⟨⟨?_,rfl⟩,?_⟩,⟨⟨rfl,rfl⟩,rfl⟩,⟨⟨rfl,rfl⟩,rfl⟩,trivial⟩ (Nat.le_refl _)) (by omega) (by omega)
      ·show w64 ((k : Int) - 1) = _
       rw [w64_eq (by omega)]
      ·show some (Blk.box [polyV (addP (mulP (cmp p q t) q) (clipP [cf p k]))]) = some (Blk.box [cmV p q (p.length - k)])
       rw [ev,eh]
      ·rw [ev]; rfl
  ·repeat (first | refine gT ?_ | refine gF ?_ | refine brT ?_ | refine brF ?_)
   refine Hn_in Tryz.f68 Tryz.func68 fn_ok68 (by kernel_rfl) ?_
   refine And.intro (Or.inr rfl) ?_
   refine Gn_in Tryz.f119 Tryz.func119 fn_ok119 (by kernel_rfl) fun y => ?_
   refine aw_loopN 5 (fun k : Nat => stOf [(0,.yl y),(1,.bp 4 0),(3,.int .i64 ((k : Int) - 1))] [(0,.box [polyV q]),(1,.box [cmV p q (p.length - k)]),(2,.box [.int .i64 0]),(4,.box [polyV p])] 5) (fun k => k <= p.length) (fun k => k) p.length (Nat.le_refl _)
    (.inl (le_by ⟨rfl,rfl,int_eq ?_,trivial⟩ ⟨rfl,?_,rfl,rfl,trivial⟩ (show 5 <= 5 by decide))) (by kernel_rfl) ?_
   ·show w64 (((p.map rv).length : Int) - 1) = _
    rw [lp,w64_eq (by omega)]
   ·show some (Blk.box [.nil]) = some (Blk.box [cmV p q (p.length - p.length)])
    rw [Nat.sub_self]; rfl
   intro k hk P hP
   cases k with
   | zero =>
    clear hP
    rw [Nat.sub_zero]
    repeat (first | refine gT ?_ | refine gF ?_ | refine brT ?_ | refine brF ?_)
    refine And.intro (Or.inl rfl) ?_
    repeat (first | refine gT ?_ | refine gF ?_ | refine brT ?_ | refine brF ?_)
    refine Or.elim (Nat.eq_zero_or_pos p.length) (fun h0 => ?_) (fun h0 => ?_)
    ·rw [h0]
     exact And.intro (Or.inr rfl) rfl
    ·rw [show p.length = p.length - 1 + 1 by omega]
     exact And.intro (Or.inr rfl) rfl
   | succ k =>
    have e : (((k + 1 : Nat) : Int) - 1) = (k : Int):=by omega
    have ek : p.length - 1 - (p.length - (k + 1)) = k:=by omega
    obtain ⟨t,ht⟩ : ∃ t,t = p.length - (k + 1):=⟨_,rfl⟩
    have ms:=ok.m t (by omega)
    have fa:=ok.a t (by omega)
    have ml:=ok.l t (by omega)
    have eh : cmp p q (p.length - k) = addP (mulP (cmp p q t) q) (clipP [cf p k]):=by
     rw [show p.length - k = t + 1 by omega]
     show _ = _
     rw [cmp,show p.length - 1 - t = k by omega]
    rw [show p.length - 1 - t = k by omega] at fa
    have ck:=clip_spec gl (p:=[cf p k]) (by intro r hr; rw [List.mem_singleton] at hr; rw [hr]; exact hp.1.at (by omega)) (show 1 <= 1000000 by decide)
    rw [e,<- ht]
    refine br (fun _ => ?_) (fun g => absurd (show (k : Int) ≥ 0 by omega) g)
    repeat (first | refine gT ?_ | refine gF ?_ | refine brT ?_ | refine brF ?_)
    refine And.intro (Int.natCast_nonneg k) (Exists.intro _ (And.intro (idx_nat rfl (by omega)) ?_))
    have lc2 : (clipP [cf p k]).length <= 1:=clip_len [cf p k]
    have ev : cmV p q (p.length - k) = polyV (cmp p q (p.length - k)):=by rw [show p.length - k = t + 1 by omega]; rfl
    refine Or.elim (Nat.eq_zero_or_pos t) (fun h0 => ?_) (fun h0 => ?_)
    ·have et : cmV p q t = .nil:=by rw [h0]; rfl
     have et2 : polyV (cmp p q t) = polyV []:=by rw [h0]; rfl
     rw [et]
     rw [et2] at ms
     repeat (first | refine gT ?_ | refine gF ?_ | refine brT ?_ | refine brF ?_)
     refine And.intro (by kernel_rfl) ?_
     repeat (first | refine gT ?_ | refine gF ?_ | refine brT ?_ | refine brF ?_ | refine And.intro rfl ?_)
     first | refine Exists.intro _ (And.intro (ms) ?_) | refine Hn_by (Exists.intro _ (And.intro (ms) ?_))
     repeat (first | refine gT ?_ | refine gF ?_ | refine brT ?_ | refine brF ?_ | refine And.intro rfl ?_)
     first | refine Exists.intro _ (And.intro (ck) ?_) | refine Hn_by (Exists.intro _ (And.intro (ck) ?_))
     repeat (first | refine gT ?_ | refine gF ?_ | refine brT ?_ | refine brF ?_ | refine And.intro rfl ?_)
     refine merge_at (p:=p) (q:=q) (cur:=.nil) gl 2 rfl rfl rfl rfl rfl ml lc2 fa ?_
     repeat (first | refine gT ?_ | refine gF ?_ | refine brT ?_ | refine brF ?_ | refine And.intro rfl ?_)
     refine hP k _ (leC_by ⟨⟨rfl,rfl⟩,⟨rfl,rfl⟩,⟨int_eq ?_,rfl⟩,trivial⟩ ⟨⟨⟨rfl,rfl⟩,rfl⟩,⟨⟨?_,rfl⟩,?_⟩,⟨⟨rfl,rfl⟩,rfl⟩,⟨⟨rfl,rfl⟩,rfl⟩,trivial⟩ (Nat.le_refl _)) (by omega) (by omega)
     ·show w64 ((k : Int) - 1) = _
      rw [w64_eq (by omega)]
     ·show some (Blk.box [polyV (addP (mulP (cmp p q t) q) (clipP [cf p k]))]) = some (Blk.box [cmV p q (p.length - k)])
      rw [ev,eh]
     ·rw [ev]; rfl
    ·have et : cmV p q t = polyV (cmp p q t):=by rw [show t = t - 1 + 1 by omega]; rfl
     rw [et]
     repeat (first | refine gT ?_ | refine gF ?_ | refine brT ?_ | refine brF ?_)
     refine And.intro (by kernel_rfl) ?_
     repeat (first | refine gT ?_ | refine gF ?_ | refine brT ?_ | refine brF ?_ | refine And.intro rfl ?_)
     first | refine Exists.intro _ (And.intro (ms) ?_) | refine Hn_by (Exists.intro _ (And.intro (ms) ?_))
     repeat (first | refine gT ?_ | refine gF ?_ | refine brT ?_ | refine brF ?_ | refine And.intro rfl ?_)
     first | refine Exists.intro _ (And.intro (ck) ?_) | refine Hn_by (Exists.intro _ (And.intro (ck) ?_))
     repeat (first | refine gT ?_ | refine gF ?_ | refine brT ?_ | refine brF ?_ | refine And.intro rfl ?_)
     refine merge_at (p:=p) (q:=q) (cur:=polyV (cmp p q t)) gl 2 rfl rfl rfl rfl rfl ml lc2 fa ?_
     repeat (first | refine gT ?_ | refine gF ?_ | refine brT ?_ | refine brF ?_ | refine And.intro rfl ?_)
     refine hP k _ (leC_by ⟨⟨rfl,rfl⟩,⟨rfl,rfl⟩,⟨int_eq ?_,rfl⟩,trivial⟩ ⟨⟨⟨rfl,rfl⟩,rfl⟩,⟨⟨?_,rfl⟩,?_⟩,⟨⟨rfl,rfl⟩,rfl⟩,⟨⟨rfl,rfl⟩,rfl⟩,trivial⟩ (Nat.le_refl _)) (by omega) (by omega)
     ·show w64 ((k : Int) - 1) = _
      rw [w64_eq (by omega)]
     ·show some (Blk.box [polyV (addP (mulP (cmp p q t) q) (clipP [cf p k]))]) = some (Blk.box [cmV p q (p.length - k)])
      rw [ev,eh]
     ·rw [ev]; rfl
 ·repeat (first | refine gT ?_ | refine gF ?_ | refine brT ?_ | refine brF ?_)
  refine Hn_in Tryz.f68 Tryz.func68 fn_ok68 (by kernel_rfl) ?_
  refine And.intro (Or.inr rfl) ?_
  refine Gn_in Tryz.f119 Tryz.func119 fn_ok119 (by kernel_rfl) fun y => ?_
  refine aw_loopN 5 (fun k : Nat => stOf [(0,.yl y),(1,.bp 4 0),(3,.int .i64 ((k : Int) - 1))] [(0,.box [polyV q]),(1,.box [cmV p q (p.length - k)]),(2,.box [.int .i64 0]),(4,.box [polyV p])] 5) (fun k => k <= p.length) (fun k => k) p.length (Nat.le_refl _)
   (.inl (le_by ⟨rfl,rfl,int_eq ?_,trivial⟩ ⟨rfl,?_,rfl,rfl,trivial⟩ (show 5 <= 5 by decide))) (by kernel_rfl) ?_
  ·show w64 (((p.map rv).length : Int) - 1) = _
   rw [lp,w64_eq (by omega)]
  ·show some (Blk.box [.nil]) = some (Blk.box [cmV p q (p.length - p.length)])
   rw [Nat.sub_self]; rfl
  intro k hk P hP
  cases k with
  | zero =>
   clear hP
   rw [Nat.sub_zero]
   repeat (first | refine gT ?_ | refine gF ?_ | refine brT ?_ | refine brF ?_)
   refine And.intro (Or.inl rfl) ?_
   repeat (first | refine gT ?_ | refine gF ?_ | refine brT ?_ | refine brF ?_)
   refine Or.elim (Nat.eq_zero_or_pos p.length) (fun h0 => ?_) (fun h0 => ?_)
   ·rw [h0]
    exact And.intro (Or.inr rfl) rfl
   ·rw [show p.length = p.length - 1 + 1 by omega]
    exact And.intro (Or.inr rfl) rfl
  | succ k =>
   have e : (((k + 1 : Nat) : Int) - 1) = (k : Int):=by omega
   have ek : p.length - 1 - (p.length - (k + 1)) = k:=by omega
   obtain ⟨t,ht⟩ : ∃ t,t = p.length - (k + 1):=⟨_,rfl⟩
   have ms:=ok.m t (by omega)
   have fa:=ok.a t (by omega)
   have ml:=ok.l t (by omega)
   have eh : cmp p q (p.length - k) = addP (mulP (cmp p q t) q) (clipP [cf p k]):=by
    rw [show p.length - k = t + 1 by omega]
    show _ = _
    rw [cmp,show p.length - 1 - t = k by omega]
   rw [show p.length - 1 - t = k by omega] at fa
   have ck:=clip_spec gl (p:=[cf p k]) (by intro r hr; rw [List.mem_singleton] at hr; rw [hr]; exact hp.1.at (by omega)) (show 1 <= 1000000 by decide)
   rw [e,<- ht]
   refine br (fun _ => ?_) (fun g => absurd (show (k : Int) ≥ 0 by omega) g)
   repeat (first | refine gT ?_ | refine gF ?_ | refine brT ?_ | refine brF ?_)
   refine And.intro (Int.natCast_nonneg k) (Exists.intro _ (And.intro (idx_nat rfl (by omega)) ?_))
   have lc2 : (clipP [cf p k]).length <= 1:=clip_len [cf p k]
   have ev : cmV p q (p.length - k) = polyV (cmp p q (p.length - k)):=by rw [show p.length - k = t + 1 by omega]; rfl
   refine Or.elim (Nat.eq_zero_or_pos t) (fun h0 => ?_) (fun h0 => ?_)
   ·have et : cmV p q t = .nil:=by rw [h0]; rfl
    have et2 : polyV (cmp p q t) = polyV []:=by rw [h0]; rfl
    rw [et]
    rw [et2] at ms
    repeat (first | refine gT ?_ | refine gF ?_ | refine brT ?_ | refine brF ?_)
    refine And.intro (by kernel_rfl) ?_
    repeat (first | refine gT ?_ | refine gF ?_ | refine brT ?_ | refine brF ?_ | refine And.intro rfl ?_)
    first | refine Exists.intro _ (And.intro (ms) ?_) | refine Hn_by (Exists.intro _ (And.intro (ms) ?_))
    repeat (first | refine gT ?_ | refine gF ?_ | refine brT ?_ | refine brF ?_ | refine And.intro rfl ?_)
    first | refine Exists.intro _ (And.intro (ck) ?_) | refine Hn_by (Exists.intro _ (And.intro (ck) ?_))
    repeat (first | refine gT ?_ | refine gF ?_ | refine brT ?_ | refine brF ?_ | refine And.intro rfl ?_)
    refine merge_at (p:=p) (q:=q) (cur:=.nil) gl 2 rfl rfl rfl rfl rfl ml lc2 fa ?_
    repeat (first | refine gT ?_ | refine gF ?_ | refine brT ?_ | refine brF ?_ | refine And.intro rfl ?_)
    refine hP k _ (leC_by ⟨⟨rfl,rfl⟩,⟨rfl,rfl⟩,⟨int_eq ?_,rfl⟩,trivial⟩ ⟨⟨⟨rfl,rfl⟩,rfl⟩,⟨⟨?_,rfl⟩,?_⟩,⟨⟨rfl,rfl⟩,rfl⟩,⟨⟨rfl,rfl⟩,rfl⟩,trivial⟩ (Nat.le_refl _)) (by omega) (by omega)
    ·show w64 ((k : Int) - 1) = _
     rw [w64_eq (by omega)]
    ·show some (Blk.box [polyV (addP (mulP (cmp p q t) q) (clipP [cf p k]))]) = some (Blk.box [cmV p q (p.length - k)])
     rw [ev,eh]
    ·rw [ev]; rfl
   ·have et : cmV p q t = polyV (cmp p q t):=by rw [show t = t - 1 + 1 by omega]; rfl
    rw [et]
    repeat (first | refine gT ?_ | refine gF ?_ | refine brT ?_ | refine brF ?_)
    refine And.intro (by kernel_rfl) ?_
    repeat (first | refine gT ?_ | refine gF ?_ | refine brT ?_ | refine brF ?_ | refine And.intro rfl ?_)
    first | refine Exists.intro _ (And.intro (ms) ?_) | refine Hn_by (Exists.intro _ (And.intro (ms) ?_))
    repeat (first | refine gT ?_ | refine gF ?_ | refine brT ?_ | refine brF ?_ | refine And.intro rfl ?_)
    first | refine Exists.intro _ (And.intro (ck) ?_) | refine Hn_by (Exists.intro _ (And.intro (ck) ?_))
    repeat (first | refine gT ?_ | refine gF ?_ | refine brT ?_ | refine brF ?_ | refine And.intro rfl ?_)
    refine merge_at (p:=p) (q:=q) (cur:=polyV (cmp p q t)) gl 2 rfl rfl rfl rfl rfl ml lc2 fa ?_
    repeat (first | refine gT ?_ | refine gF ?_ | refine brT ?_ | refine brF ?_ | refine And.intro rfl ?_)
    refine hP k _ (leC_by ⟨⟨rfl,rfl⟩,⟨rfl,rfl⟩,⟨int_eq ?_,rfl⟩,trivial⟩ ⟨⟨⟨rfl,rfl⟩,rfl⟩,⟨⟨?_,rfl⟩,?_⟩,⟨⟨rfl,rfl⟩,rfl⟩,⟨⟨rfl,rfl⟩,rfl⟩,trivial⟩ (Nat.le_refl _)) (by omega) (by omega)
    ·show w64 ((k : Int) - 1) = _
     rw [w64_eq (by omega)]
    ·show some (Blk.box [polyV (addP (mulP (cmp p q t) q) (clipP [cf p k]))]) = some (Blk.box [cmV p q (p.length - k)])
     rw [ev,eh]
    ·rw [ev]; rfl
end Ab
end
section
open Go Go.Proofs
namespace Ab
set_option maxRecDepth 100000
set_option maxHeartbeats 1000000
end Ab
end
