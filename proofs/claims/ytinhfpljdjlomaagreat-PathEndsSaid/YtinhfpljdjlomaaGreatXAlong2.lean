import Derived.Test.YtinhfpljdjlomaaGreatXAlong
open Go Go.Proofs
namespace Ab
set_option maxRecDepth 100000
set_option maxHeartbeats 1000000
def hacV : List Bx -> AV
 | [] => .nil
 | B :: l => .ms 2 0 (B :: l).length
def hacH : List Bx -> List (Nat × Blk)
 | [] => []
 | B :: l => [(2,.arr (60,5) (brow (B :: l)) true)]
theorem take_zip {L M l : List Bx} {x y : Bx} (h : l = (List.zipWith hullF L M).take l.length) (hx : L[l.length]? = some x) (hy : M[l.length]? = some y) : l ++ [hullF x y] = (List.zipWith hullF L M).take (l ++ [hullF x y]).length:=by
 rw [List.length_append,List.length_singleton,List.take_add_one,zip_at hx hy,<- h]; rfl
theorem ralong_ok {l m : Ps} {re im r2 i2 : Int} {L M : List Bx} (hL : L.length <= 20) (hM : M.length = L.length) (gL : ∀ B ∈ L,Gd B) (gM : ∀ B ∈ M,Gd B) (s1 : Spec Tryz.prog [] 34 [.sl l,.sl m,tmv re im] (.tup [.sl (brow L),.int .i64 0])) (s2 : Spec Tryz.prog [] 34 [.sl l,.sl m,tmv r2 i2] (.tup [.sl (brow M),.int .i64 0])) :
  Spec Tryz.prog [] 36 [.sl l,.sl m,tmv re im,tmv r2 i2] (.tup [.sl (brow (List.zipWith hullF L M)),.int .i64 0]):=by
 have lL : ((brow L).length : Int) = L.length:=by rw [brow_len]
 have hz : (List.zipWith hullF L M).length = L.length:=by rw [List.length_zipWith]; omega
 refine spec_fn T_ok mixed_ok 0 Tryz.func36 fn_ok36 (by kernel_rfl) ?_
 first | refine Exists.intro _ (And.intro (s1) ?_) | refine Hn_by (Exists.intro _ (And.intro (s1) ?_))
 repeat (first | refine gT ?_ | refine gF ?_ | refine brT ?_ | refine brF ?_)
 first | refine Exists.intro _ (And.intro (s2) ?_) | refine Hn_by (Exists.intro _ (And.intro (s2) ?_))
 repeat (first | refine gT ?_ | refine gF ?_ | refine brT ?_ | refine brF ?_)
 refine aw_loopN 2 (fun h : List Bx => stOf [(10,.sl (brow L)),(12,.sl (brow M)),(14,hacV h),(15,.int .i64 (h.length : Int))] (hacH h) 3)
  (fun h => h.length <= L.length ∧ h = (List.zipWith hullF L M).take h.length) (fun h => L.length - h.length) [] ⟨Nat.zero_le _,rfl⟩
  (.inl (le_by ⟨rfl,rfl,rfl,rfl,trivial⟩ trivial (show 2 <= 3 by decide))) (by kernel_rfl) ?_
 rintro h ⟨hi,hh⟩ P hP
 refine br (fun g => ?_) (fun g => ?_)
 ·have g : h.length < L.length:=by have : (h.length : Int) < ((brow L).length : Int):=g; omega
  obtain ⟨x,hx⟩:=get_of g
  obtain ⟨y,hy⟩:=get_of (l:=M) (i:=h.length) (by omega)
  have hu:=ghull16_spec (gL x (List.mem_of_getElem? hx)) (gM y (List.mem_of_getElem? hy))
  have hpre:=take_zip hh hx hy
  generalize hullF x y = B at hu hpre
  have hlen : (h ++ [B]).length = h.length + 1:=by simp
  have hw:=w64_succ g (by omega)
  rw [<- hlen] at hw
  match h with
  | [] =>
   refine And.intro (by kernel_rfl) ?_
   refine And.intro (Int.natCast_nonneg _) (Exists.intro _ (And.intro (at_nat (brow_at hx)) ?_))
   refine And.intro (Int.natCast_nonneg _) (Exists.intro _ (And.intro (at_nat (brow_at hy)) ?_))
   repeat (first | refine gT ?_ | refine gF ?_ | refine brT ?_ | refine brF ?_ | refine And.intro rfl ?_)
   first | refine Exists.intro _ (And.intro (hu) ?_) | refine Hn_by (Exists.intro _ (And.intro (hu) ?_))
   repeat (first | refine gT ?_ | refine gF ?_ | refine brT ?_ | refine brF ?_ | refine And.intro rfl ?_)
   refine And.intro (by decide) (And.intro (by decide) (And.intro (show 1 <= maxLen by simp [maxLen]) (And.intro (Nat.le_refl 1) ?_)))
   refine hP [B] _ ?_ ⟨by simp at hlen g ⊢; omega,hpre⟩ (by simp at g ⊢; omega)
   exact leR_by [(2,5)] [] rfl rfl (by decide) ⟨.inl rfl,.inl rfl,⟨by decide,rfl⟩,int_eq hw,trivial⟩ ⟨⟨rfl,trivial,rfl⟩,trivial⟩
  | C :: h =>
   have hm : (C :: h).length = (brow (C :: h)).length:=(brow_len _).symm
   refine And.intro (by kernel_rfl) ?_
   refine And.intro (Int.natCast_nonneg _) (Exists.intro _ (And.intro (at_nat (brow_at hx)) ?_))
   refine And.intro (Int.natCast_nonneg _) (Exists.intro _ (And.intro (at_nat (brow_at hy)) ?_))
   repeat (first | refine gT ?_ | refine gF ?_ | refine brT ?_ | refine brF ?_ | refine And.intro rfl ?_)
   first | refine Exists.intro _ (And.intro (hu) ?_) | refine Hn_by (Exists.intro _ (And.intro (hu) ?_))
   repeat (first | refine gT ?_ | refine gF ?_ | refine brT ?_ | refine brF ?_ | refine And.intro rfl ?_)
   refine And.intro hm (And.intro (Nat.le_refl 1) (And.intro (show ((C :: h).length + 1) * 40 <= 140737488355328 by omega) (And.intro (show (C :: h).length + 1 <= maxLen by simp only [maxLen]; omega) ?_)))
   refine hP ((C :: h) ++ [B]) _ ?_ ⟨by omega,hpre⟩ (by omega)
   refine leR_by [(2,5)] [] rfl rfl (by decide) ⟨.inl rfl,.inl rfl,⟨by decide,?_⟩,int_eq hw,trivial⟩ ⟨⟨rfl,trivial,?_⟩,trivial⟩
   ·show AV.ms 5 0 ((C :: h).length + 1) = AV.ms 5 0 ((C :: h) ++ [B]).length
    rw [hlen]
   ·show some (Blk.arr (60,5) (brow (C :: h) ++ [B.cs]) true) = some (Blk.arr (60,5) (brow ((C :: h) ++ [B])) true)
    rw [brow_snoc]
 ·have g : ¬ h.length < L.length:=by have : ¬ (h.length : Int) < ((brow L).length : Int):=g; omega
  rw [List.take_of_length_le (by omega)] at hh
  rw [<- hh]
  match h with
  | [] => exact And.intro (Or.inr rfl) rfl
  | C :: h =>
   refine And.intro (Or.inr rfl) ?_
   refine And.intro (show 0 + (C :: h).length <= (brow (C :: h)).length by rw [brow_len]; omega) ?_
   show AV.tup [AV.sl (((brow (C :: h)).drop 0).take (C :: h).length),AV.int .i64 0] = _
   rw [List.drop_zero,List.take_of_length_le (by rw [brow_len]; exact Nat.le_refl _)]
theorem bad1 {l m : Ps} {re im r2 i2 e : Int} (h0 : e ≠ 0) : (Spec Tryz.prog [] 17 [.sl l,.sl m,tmv re im] (.tup [.sl [],.int .i64 e]) -> Spec Tryz.prog [] 35 [.sl l,.sl m,tmv re im,tmv r2 i2] (.tup [.sl [],.int .i64 e])) ∧
  (Spec Tryz.prog [] 34 [.sl l,.sl m,tmv re im] (.tup [.sl [],.int .i64 e]) -> Spec Tryz.prog [] 36 [.sl l,.sl m,tmv re im,tmv r2 i2] (.tup [.sl [],.int .i64 e])):=by
 constructor
 ·intro s
  refine spec_fn T_ok mixed_ok 0 Tryz.func35 fn_ok35 (by kernel_rfl) ?_
  first | refine Exists.intro _ (And.intro (s) ?_) | refine Hn_by (Exists.intro _ (And.intro (s) ?_))
  refine brN (fun _ => ?_) (fun g => absurd g h0)
  exact And.intro (Or.inr rfl) rfl
 ·intro s
  refine spec_fn T_ok mixed_ok 0 Tryz.func36 fn_ok36 (by kernel_rfl) ?_
  first | refine Exists.intro _ (And.intro (s) ?_) | refine Hn_by (Exists.intro _ (And.intro (s) ?_))
  refine brN (fun _ => ?_) (fun g => absurd g h0)
  exact And.intro (Or.inr rfl) rfl
theorem rbad2 {l m : Ps} {re im r2 i2 e : Int} {L : List Bx} (h0 : e ≠ 0) (s1 : Spec Tryz.prog [] 34 [.sl l,.sl m,tmv re im] (.tup [.sl (brow L),.int .i64 0])) (s2 : Spec Tryz.prog [] 34 [.sl l,.sl m,tmv r2 i2] (.tup [.sl [],.int .i64 e])) :
  Spec Tryz.prog [] 36 [.sl l,.sl m,tmv re im,tmv r2 i2] (.tup [.sl [],.int .i64 e]):=by
 refine spec_fn T_ok mixed_ok 0 Tryz.func36 fn_ok36 (by kernel_rfl) ?_
 first | refine Exists.intro _ (And.intro (s1) ?_) | refine Hn_by (Exists.intro _ (And.intro (s1) ?_))
 repeat (first | refine gT ?_ | refine gF ?_ | refine brT ?_ | refine brF ?_)
 first | refine Exists.intro _ (And.intro (s2) ?_) | refine Hn_by (Exists.intro _ (And.intro (s2) ?_))
 refine brN (fun _ => ?_) (fun g => absurd g h0)
 exact And.intro (Or.inr rfl) rfl
inductive AlAns : AV -> AV -> AV -> Prop
 | one {e : Int} {s : AV} : e ≠ 0 -> AlAns (.tup [.sl [],.int .i64 e]) s (.tup [.sl [],.int .i64 e])
 | two {L : List Bx} {e : Int} : e ≠ 0 -> AlAns (.tup [.sl (brow L),.int .i64 0]) (.tup [.sl [],.int .i64 e]) (.tup [.sl [],.int .i64 e])
 | all {L M : List Bx} : L.length <= 20 -> M.length = L.length -> (∀ B ∈ L,Gd B) -> (∀ B ∈ M,Gd B) -> AlAns (.tup [.sl (brow L),.int .i64 0]) (.tup [.sl (brow M),.int .i64 0]) (.tup [.sl (brow (List.zipWith hullF L M)),.int .i64 0])
theorem along_any {l m : Ps} {re im r2 i2 : Int} {r s : AV} (hl : QDs l) (hm : QDs m) (hml : (m.length : Int) <= 9223372036854775807) (h1 : AtAns l m re im r) (h2 : AtAns l m r2 i2 s) (x1 : Spec Tryz.prog [] 17 [.sl l,.sl m,tmv re im] r) (y1 : Spec Tryz.prog [] 34 [.sl l,.sl m,tmv re im] r)
  (x2 : Spec Tryz.prog [] 17 [.sl l,.sl m,tmv r2 i2] s) (y2 : Spec Tryz.prog [] 34 [.sl l,.sl m,tmv r2 i2] s) :
  ∃ q,AlAns r s q ∧ Spec Tryz.prog [] 35 [.sl l,.sl m,tmv re im,tmv r2 i2] q ∧ Spec Tryz.prog [] 36 [.sl l,.sl m,tmv re im,tmv r2 i2] q:=by
 rcases h1 with ⟨_,rfl⟩ | ⟨a,b,rfl,rfl,ha,hb,h3,h4,h5,rfl⟩
 ·exact ⟨_,.one (by decide),(bad1 (by decide)).1 x1,(bad1 (by decide)).2 y1⟩
 ·cases eL : atO a b re im with
  | none =>
   rw [eL] at x1 y1
   exact ⟨_,.one (by decide),(bad1 (by decide)).1 x1,(bad1 (by decide)).2 y1⟩
  | some L =>
   rw [eL] at y1
   have lL:=atO_len h4.symm eL
   obtain ⟨⟨t1,t2⟩,t3,t4⟩:=timeB_iff.1 h5
   have gL:=atO_gd (by omega) (by omega) (by omega) (by omega) ha hb eL
   rcases h2 with ⟨_,rfl⟩ | ⟨c,d,e1,e2,hc,hd,k3,k4,k5,rfl⟩
   ·exact ⟨_,.two (L:=L) (by decide),along_bad ha hb h3 h4 h5 eL (by decide) x2,rbad2 (by decide) y1 y2⟩
   ·have e3 : a = c:=by
     unfold qrow at e1
     refine (List.map_inj_right fun x y e => ?_).1 e1
     obtain ⟨h1,h2⟩:=qr_inj e
     exact Prod.ext h1 h2
    have e4 : b = d:=by
     unfold qrow at e2
     refine (List.map_inj_right fun x y e => ?_).1 e2
     obtain ⟨h1,h2⟩:=qr_inj e
     exact Prod.ext h1 h2
    subst e3 e4
    cases eM : atO a b r2 i2 with
    | none =>
     rw [eM] at x2 y2
     exact ⟨_,.two (L:=L) (by decide),along_bad ha hb h3 h4 h5 eL (by decide) x2,rbad2 (by decide) y1 y2⟩
    | some M =>
     rw [eM] at x2 y2
     have lM:=atO_len h4.symm eM
     obtain ⟨⟨u1,u2⟩,u3,u4⟩:=timeB_iff.1 k5
     have gM:=atO_gd (by omega) (by omega) (by omega) (by omega) ha hb eM
     exact ⟨_,.all (L:=L) (M:=M) (by omega) (by omega) gL gM,along_ok ha hb h3 h4 h5 eL (by omega) gL gM x2,ralong_ok (by omega) (by omega) gL gM y1 y2⟩
end Ab
