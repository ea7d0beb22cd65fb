import Derived.Test.YtpjjbhhoagocjaaGreatDoorXRatTot
import Derived.Test.YtpjjbhhoagocjaaGreatDoorXSame
section
open Go Go.Proofs
namespace Ab
set_option maxRecDepth 100000
set_option maxHeartbeats 1000000
theorem clo13_okc (gl : List (Nat × AV)) {F : FuncId} {xn yn zn : Bool} {xl yl zl : List Int} (hF : Spec Tryz.prog gl F [mkI xn xl,mkI yn yl] (.tup [mkI zn zl,.int .i64 0])) {tm : Nat -> AV} {hp : Nat -> Option Blk} {K : AV -> St -> Prop} (n : Nat) (he : hp 8 = some (.box [.int .i64 0])) (hc : hp 9 = some (.box [.fn F []]))
  (cl : ∀ k,k < 13 -> blB 13 (hp k) = true) (hK : K (mkI zn zl) ⟨tm,cutH 13 hp,13⟩) : Hn Tryz.prog T gl (n + 1) (.fn 110) [mkI xn xl,mkI yn yl,.bp 8 0,.bp 9 0] ⟨tm,hp,13⟩ K:=by
 obtain ⟨h0,rfl⟩:=put_known he hc
 refine Hn_cut Tryz.f110 Tryz.func110 fn_ok110 (by kernel_rfl) ?_
 refine brF ?_
 refine Hn_by (Exists.intro _ (And.intro hF ?_))
 refine And.intro (Or.inr rfl) (And.intro rfl (cut_K cl hK ?_))
 repeat (first | exact Old.refl | refine Old.new rfl ?_ | refine Old.same rfl ?_)
theorem clo13_ok (gl : List (Nat × AV)) {F : FuncId} {xn yn zn : Bool} {xl yl zl : List Int} (hF : Spec Tryz.prog gl F [mkI xn xl,mkI yn yl] (.tup [mkI zn zl,.int .i64 0])) {tm : Nat -> AV} {hp : Nat -> Option Blk} {K : AV -> St -> Prop} (n : Nat) (he : hp 8 = some (.box [.int .i64 0])) (hc : hp 9 = some (.box [.fn F []]))
  (cl : ∀ k,k < 13 -> blB 13 (hp k) = true) (dm : ∀ k,13 <= k -> hp k = none) (hK : K (mkI zn zl) ⟨tm,hp,13⟩) : Hn Tryz.prog T gl (n + 1) (.fn 110) [mkI xn xl,mkI yn yl,.bp 8 0,.bp 9 0] ⟨tm,hp,13⟩ K :=
 clo13_okc gl hF n he hc cl (by rw [cut_same dm]; exact hK)
theorem ratdiv_walk (gl : List (Nat × AV)) {an ad bn bd xn yn zn zd : Bool} {al am bl bm xl yl zl zm : List Int} (s : Spec Tryz.prog gl 108 [.sl [[.bool an,lim al,.bool ad,lim am],[.bool bn,lim bl,.bool bd,lim bm]]] (.bool true)) (z : Spec Tryz.prog gl 62 [mkI bn bl] (.bool false))
  (m1 : Spec Tryz.prog gl 28 [mkI an al,mkI bd bm] (.tup [mkI xn xl,.int .i64 0])) (m2 : Spec Tryz.prog gl 28 [mkI ad am,mkI bn bl] (.tup [mkI yn yl,.int .i64 0])) (rd : Spec Tryz.prog gl 71 [mkI xn xl,mkI yn yl] (mkQ zn zl zd zm)) :
  Spec Tryz.prog gl 123 [mkQ an al ad am,mkQ bn bl bd bm] (.tup [mkQ zn zl zd zm,.int .i64 0]):=by
 refine spec_fn T_ok mixed_ok 5 Tryz.func123 fn_ok123 (by kernel_rfl) ?_
 refine Hn_by (And.intro (Nat.le_refl 2) (Exists.intro _ (And.intro s ?_)))
 refine brT ?_
 refine brT ?_
 refine brT ?_
 refine Hn_by (Exists.intro _ (And.intro z ?_))
 refine brF ?_
 refine Hn_in Tryz.f56 Tryz.func56 fn_ok56 (by kernel_rfl) ?_
 refine Hn_by (And.intro (Nat.le_refl 2) (Exists.intro _ (And.intro s ?_)))
 refine brF ?_
 refine Hn_in Tryz.f109 Tryz.func109 fn_ok109 (by kernel_rfl) ?_
 refine And.intro (Or.inr rfl) ?_
 refine Hn_in Tryz.f109 Tryz.func109 fn_ok109 (by kernel_rfl) ?_
 refine And.intro (Or.inr rfl) ?_
 refine Hn_in Tryz.f149 Tryz.func149 fn_ok149 (by kernel_rfl) ?_
 refine clo13_okc gl m1 _ (by kernel_rfl) (by kernel_rfl) (clean_at (cleanB_ok (by kernel_rfl))) ?_
 refine And.intro (by kernel_rfl) ?_
 refine And.intro (by kernel_rfl) ?_
 refine And.intro (clean_at (cleanB_ok (by kernel_rfl))) ?_
 refine Exists.intro (mkI yn yl) (Exists.intro (none) (And.intro (by kernel_rfl) (And.intro ?_ (fun tm hp ag cl dm K' hK => clo13_ok gl m2 _ ((ag 8 (by kernel_rfl)).trans (by kernel_rfl)) ((ag 9 (by kernel_rfl)).trans (by kernel_rfl)) cl dm hK))))
 refine And.intro (Or.inr rfl) ?_
 refine brF ?_
 refine Hn_by (Exists.intro _ (And.intro rd ?_))
 refine And.intro (Or.inr rfl) ?_
 exact And.intro (Or.inr rfl) rfl
theorem ratdiv_int (gl : List (Nat × AV)) {a b c d : Int} (ha : Fits a) (hb : Fits b) (hc : Fits c) (hd : Fits d) (b0 : 0 < b) (d0 : 0 < d) (c0 : c ≠ 0) (g1 : Int.gcd a b = 1) (g2 : Int.gcd c d = 1) (hn : Fits (a * d)) (hm : Fits (b * c)) :
  Spec Tryz.prog gl 123 [mkR a b,mkR c d] (.tup [(if 0 < b * c then mkR (a * d / Int.gcd (a * d) (b * c)) (b * c / Int.gcd (a * d) (b * c)) else mkR (-(a * d) / Int.gcd (a * d) (b * c)) (-(b * c) / Int.gcd (a * d) (b * c))),.int .i64 0]):=by
 have s:=all_spec gl (ratvalid_int gl ha hb b0 g1) (ratvalid_int gl hc hd d0 g2)
 have z : Spec Tryz.prog gl 62 [mkI (decide (c < 0)) (Dg.mag (az c))] (.bool false):=by
  have:=qzero_spec gl (decide (c < 0)) (Dg.mag (az c))
  rwa [decide_eq_false (mag_ne c0)] at this
 have m1:=mul_int gl ha hd
 have m2:=mul_int gl hb hc
 rw [resZ_ok hn] at m1
 rw [resZ_ok hm] at m2
 by_cases h : 0 < b * c
 ·rw [if_pos h]
  exact ratdiv_walk gl s z m1 m2 (reduceq_int gl hn hm h)
 ·rw [if_neg h]
  have : b * c ≠ 0:=Int.mul_ne_zero (by omega) c0
  exact ratdiv_walk gl s z m1 m2 (reduceq_int2 gl hn hm (by omega))
end Ab
end
section
open Go Go.Proofs
namespace Ab
set_option maxRecDepth 100000
set_option maxHeartbeats 1000000
def rv (r : Rat) : List AV:=qr r.num r.den
def rV (r : Rat) : AV:=.agg (rv r)
def RF (r : Rat) : Prop:=Fits r.num∧Fits (r.den : Int)
theorem rat_pos (r : Rat) : (0 : Int) < (r.den : Int):=by have:=r.den_nz; omega
theorem rat_gcd (r : Rat) : Int.gcd r.num (r.den : Int) = 1:=by
 have:=r.reduced
 unfold Nat.Coprime at this
 rw [Int.gcd_eq_natAbs_gcd_natAbs,Int.natAbs_natCast]; exact this
theorem rV_eq (r : Rat) : rV r = mkR r.num r.den:=rfl
theorem mk_red {n d : Int} (hd : 0 < d) : mkR (n / Int.gcd n d) (d / Int.gcd n d) = rV (Rat.divInt n d):=by
 rw [rV_eq,Rat.num_divInt,Rat.den_divInt,if_neg (by omega),Int.gcd_comm d n,Int.sign_eq_one_of_pos hd,Int.one_mul]
 congr 1
 have : ((d.natAbs / n.gcd d : Nat) : Int) = d / (n.gcd d : Int):=by
  rw [Int.natCast_ediv,Int.natAbs_of_nonneg (by omega)]
 exact this.symm
theorem div_fits {n d : Int} (hd : 0 < d) (hn : Fits n) (hd' : Fits d) : RF (Rat.divInt n d):=by
 have h:=qn_reduce hn hd' hd
 have e:=mk_red (n:=n) hd
 rw [rV_eq] at e
 obtain ⟨e1,e2⟩:=qr_inj (AV.agg.inj e)
 exact ⟨by rw [<- e1]; exact h.1,by rw [<- e2]; exact h.2.1⟩
theorem rat_add (a b : Rat) : a + b = Rat.divInt (a.num * b.den + b.num * a.den) (a.den * b.den):=by
 have ha:=rat_pos a
 have hb:=rat_pos b
 conv => lhs; rw [<- Rat.num_divInt_den a,<- Rat.num_divInt_den b]
 rw [Rat.divInt_add_divInt _ _ (by omega) (by omega)]
theorem rat_sub (a b : Rat) : a - b = Rat.divInt (a.num * b.den - b.num * a.den) (a.den * b.den):=by
 have ha:=rat_pos a
 have hb:=rat_pos b
 conv => lhs; rw [<- Rat.num_divInt_den a,<- Rat.num_divInt_den b]
 rw [Rat.divInt_sub_divInt _ _ (by omega) (by omega)]
theorem rat_mul (a b : Rat) : a * b = Rat.divInt (a.num * b.num) (a.den * b.den):=by
 conv => lhs; rw [<- Rat.num_divInt_den a,<- Rat.num_divInt_den b]
 rw [Rat.divInt_mul_divInt]
theorem rat_div (a b : Rat) : a / b = Rat.divInt (a.num * b.den) (a.den * b.num):=by
 rw [Rat.div_def]
 conv => lhs; rw [<- Rat.num_divInt_den a,<- Rat.num_divInt_den b]
 rw [Rat.inv_divInt,Rat.divInt_mul_divInt]
def FA (a b : Rat) : Prop:=RF a∧RF b∧Fits (a.num * b.den)∧Fits (b.num * a.den)∧Fits (a.num * b.den + b.num * a.den)∧Fits ((a.den : Int) * b.den)
def FS (a b : Rat) : Prop:=RF a∧RF b∧Fits (a.num * b.den)∧Fits (b.num * a.den)∧Fits (a.num * b.den - b.num * a.den)∧Fits ((a.den : Int) * b.den)
def FM (a b : Rat) : Prop:=RF a∧RF b∧Fits (a.num * b.num)∧Fits ((a.den : Int) * b.den)
def FD (a b : Rat) : Prop:=RF a∧RF b∧b ≠ 0∧Fits (a.num * b.den)∧Fits ((a.den : Int) * b.num)
theorem FA.fits {a b : Rat} (h : FA a b) : RF (a + b):=by rw [rat_add]; exact div_fits (Int.mul_pos (rat_pos a) (rat_pos b)) h.2.2.2.2.1 h.2.2.2.2.2
section
variable (gl : List (Nat × AV))
theorem valid_rat {r : Rat} (h : RF r) : Spec Tryz.prog gl 61 [rV r] (.bool true):=ratvalid_int gl h.1 h.2 (rat_pos r) (rat_gcd r)
theorem add_rat {a b : Rat} (h : FA a b) : Spec Tryz.prog gl 42 [rV a,rV b] (.tup [rV (a + b),.int .i64 0]):=by
 obtain ⟨h1,h2,h3,h4,h5,h6⟩:=h
 have:=ratadd_int gl h1.1 h1.2 h2.1 h2.2 (rat_pos a) (rat_pos b) (rat_gcd a) (rat_gcd b) h3 h4 h5 h6
 rw [mk_red (Int.mul_pos (rat_pos a) (rat_pos b)),<- rat_add] at this
 exact this
theorem sub_rat {a b : Rat} (h : FS a b) : Spec Tryz.prog gl 86 [rV a,rV b] (.tup [rV (a - b),.int .i64 0]):=by
 obtain ⟨h1,h2,h3,h4,h5,h6⟩:=h
 have:=ratsub_int gl h1.1 h1.2 h2.1 h2.2 (rat_pos a) (rat_pos b) (rat_gcd a) (rat_gcd b) h3 h4 h5 h6
 rw [mk_red (Int.mul_pos (rat_pos a) (rat_pos b)),<- rat_sub] at this
 exact this
theorem mul_rat {a b : Rat} (h : FM a b) : Spec Tryz.prog gl 24 [rV a,rV b] (.tup [rV (a * b),.int .i64 0]):=by
 obtain ⟨h1,h2,h3,h4⟩:=h
 have:=ratmul_int gl h1.1 h1.2 h2.1 h2.2 (rat_pos a) (rat_pos b) (rat_gcd a) (rat_gcd b) h3 h4
 rw [mk_red (Int.mul_pos (rat_pos a) (rat_pos b)),<- rat_mul] at this
 exact this
theorem num_zero {b : Rat} (h : b ≠ 0) : b.num ≠ 0:=fun e => h (Rat.num_eq_zero.1 e)
theorem div_rat {a b : Rat} (h : FD a b) : Spec Tryz.prog gl 123 [rV a,rV b] (.tup [rV (a / b),.int .i64 0]):=by
 obtain ⟨h1,h2,h3,h4,h5⟩:=h
 have n0:=num_zero h3
 have d0:=rat_pos a
 have:=ratdiv_int gl h1.1 h1.2 h2.1 h2.2 d0 (rat_pos b) n0 (rat_gcd a) (rat_gcd b) h4 h5
 rw [rat_div]
 by_cases hp : 0 < (a.den : Int) * b.num
 ·rw [if_pos hp,mk_red hp] at this
  exact this
 ·rw [if_neg hp] at this
  have hne : (a.den : Int) * b.num ≠ 0:=Int.mul_ne_zero (by omega) n0
  have e : Int.gcd (a.num * b.den) (a.den * b.num) = Int.gcd (-(a.num * b.den)) (-(a.den * b.num)):=by rw [Int.gcd_neg,Int.neg_gcd]
  rw [e,mk_red (by omega),Rat.neg_divInt_neg] at this
  exact this
def sgR (r : Rat) : Int:=if r.num = 0 then 0 else if r.num < 0 then -1 else 1
theorem sgR_zero {r : Rat} : sgR r = 0 ↔ r = 0:=by
 unfold sgR
 rw [<- Rat.num_eq_zero]
 split
 ·simp [*]
 ·split <;> simp [*]
theorem sign_rat {r : Rat} (h : RF r) : Spec Tryz.prog gl 26 [rV r] (.int .i64 (sgR r)):=by
 have v:=valid_rat gl h
 have z:=qzero_spec gl (decide (r.num < 0)) (Dg.mag (az r.num))
 unfold rV rv at v ⊢
 refine spec_fn T_ok mixed_ok 0 Tryz.func26 fn_ok26 (by kernel_rfl) ?_
 first | refine Exists.intro _ (And.intro (v) ?_) | refine Hn_by (Exists.intro _ (And.intro (v) ?_))
 repeat (first | refine gT ?_ | refine gF ?_ | refine brT ?_ | refine brF ?_)
 by_cases e : r.num = 0
 ·rw [decide_eq_true ((mag_nil (az_nn r.num)).2 (by unfold az; omega))] at z
  rw [show sgR r = 0 by unfold sgR; rw [if_pos e]]
  first | refine Exists.intro _ (And.intro (z) ?_) | refine Hn_by (Exists.intro _ (And.intro (z) ?_))
  repeat (first | refine gT ?_ | refine gF ?_ | refine brT ?_ | refine brF ?_)
  exact And.intro (Or.inr rfl) rfl
 ·rw [decide_eq_false (mag_ne e)] at z
  first | refine Exists.intro _ (And.intro (z) ?_) | refine Hn_by (Exists.intro _ (And.intro (z) ?_))
  repeat (first | refine gT ?_ | refine gF ?_ | refine brT ?_ | refine brF ?_)
  by_cases e2 : r.num < 0
  ·rw [show sgR r = -1 by unfold sgR; rw [if_neg e,if_pos e2],decide_eq_true e2]
   repeat (first | refine gT ?_ | refine gF ?_ | refine brT ?_ | refine brF ?_)
   exact And.intro (Or.inr rfl) rfl
  ·rw [show sgR r = 1 by unfold sgR; rw [if_neg e,if_neg e2],decide_eq_false e2]
   repeat (first | refine gT ?_ | refine gF ?_ | refine brT ?_ | refine brF ?_)
   exact And.intro (Or.inr rfl) rfl
end
end Ab
end
section
open Go Go.Proofs
namespace Ab
set_option maxRecDepth 100000
set_option maxHeartbeats 1000000
abbrev polyV (p : List Rat) : AV:=.sl (p.map rv)
def clipN (p : List Rat) : Nat -> List Rat
 | 0 => []
 | k + 1 => if p.getD k 0 = 0 then clipN p k else p.take (k + 1)
def clipP (p : List Rat) : List Rat:=clipN p p.length
theorem poly_len (p : List Rat) : (((p.map rv).length : Nat) : Int) = (p.length : Int):=by rw [List.length_map]
theorem poly_at {p : List Rat} {k : Nat} (h : k < p.length) : (p.map rv)[k]? = some (rv (p.getD k 0)):=by
 rw [List.getElem?_map,List.getElem?_eq_getElem h]
 simp [List.getD,List.getElem?_eq_getElem h]
theorem poly_take (p : List Rat) (k j : Nat) : ((((p.take k).map rv).take j).drop 0) = (p.take (min k j)).map rv:=by
 rw [List.drop_zero,<- List.map_take,List.take_take,Nat.min_comm]
theorem sl_eq {a b : List (List AV)} (h : a = b) : AV.sl a = AV.sl b:=by rw [h]
def AllRF (p : List Rat) : Prop:=∀ r ∈ p,RF r
theorem AllRF.at {p : List Rat} (h : AllRF p) {k : Nat} (hk : k < p.length) : RF (p.getD k 0):=by
 have : p.getD k 0 = p[k]:=by simp [List.getD,List.getElem?_eq_getElem hk]
 rw [this]
 exact h _ (List.getElem_mem hk)
theorem rV_int (n : Int) : mkR (n / Int.gcd n 1) (1 / Int.gcd n 1) = rV (n : Rat):=by
 rw [mk_red (n:=n) (d:=1) (by decide),Rat.divInt_eq_div]
 congr 1
 grind
theorem of_uni (gl : List (Nat × AV)) {n : Int} (h0 : -9223372036854775808 <= n) (h1 : n <= 9223372036854775807) : Spec Tryz.prog gl 59 [.int .i64 n] (rV (n : Rat)):=by
 have o:=ratof_int gl h0 h1 (d:=1) (by decide) (by decide)
 rw [rV_int] at o
 unfold rV rv at o ⊢
 refine spec_fn T_ok mixed_ok 0 Tryz.func59 fn_ok59 (by kernel_rfl) ?_
 first | refine Exists.intro _ (And.intro (o) ?_) | refine Hn_by (Exists.intro _ (And.intro (o) ?_))
 exact And.intro (Or.inr rfl) rfl
theorem must_spec (gl : List (Nat × AV)) (r : Rat) : Spec Tryz.prog gl 69 [rV r,.int .i64 0] (rV r):=by
 unfold rV rv
 refine spec_fn T_ok mixed_ok 0 Tryz.func69 fn_ok69 (by kernel_rfl) ?_
 repeat (first | refine gT ?_ | refine gF ?_ | refine brT ?_ | refine brF ?_)
 exact And.intro (Or.inr rfl) rfl
theorem clip_spec (gl : List (Nat × AV)) {p : List Rat} (hp : AllRF p) (hl : p.length <= 1000000) : Spec Tryz.prog gl 80 [polyV p] (polyV (clipP p)):=by
 refine spec_fn T_ok mixed_ok 0 Tryz.func80 fn_ok80 (by kernel_rfl) ?_
 refine aw_loop (fun k : Nat => stOf [(0,polyV (p.take k))] [] 0) (fun k => k <= p.length∧clipP p = clipN p k) (fun k => k) p.length ⟨Nat.le_refl _,rfl⟩
  (le_by ⟨sl_eq (by rw [List.take_length]),trivial⟩ trivial (Nat.le_refl _)) ?_
 rintro k ⟨hk,hc⟩ P hP
 cases k with
 | zero =>
  refine br (fun g => absurd (show ((0 : Nat) : Int) > 0 from g) (by decide)) (fun _ => ?_)
  repeat (first | refine gT ?_ | refine gF ?_ | refine brT ?_ | refine brF ?_)
  clear hP
  rw [hc]
  exact And.intro (Or.inr rfl) rfl
 | succ k =>
  have hlen : ((((p.take (k + 1)).map rv).length : Nat) : Int) = (k : Int) + 1:=by rw [poly_len,List.length_take]; omega
  refine br (fun _ => ?_) (fun g => ?_)
  ·have hw : w64 ((((p.take (k + 1)).map rv).length : Int) - 1) = (k : Int):=by rw [w64_eq (by omega)]; omega
   have hx : ((p.take (k + 1)).map rv)[(w64 ((((p.take (k + 1)).map rv).length : Int) - 1)).toNat]? = some (rv (p.getD k 0)):=by
    rw [hw,Int.toNat_natCast,poly_at (by rw [List.length_take]; omega)]
    congr 2
    simp [List.getD]
   have s:=sign_rat gl (hp.at (k:=k) (by omega))
   repeat (first | refine gT ?_ | refine gF ?_ | refine brT ?_ | refine brF ?_)
   refine And.intro (show (0 : Int) <= w64 ((((p.take (k + 1)).map rv).length : Int) - 1) by omega) (Exists.intro _ (And.intro hx ?_))
   repeat (first | refine gT ?_ | refine gF ?_ | refine brT ?_ | refine brF ?_)
   first | refine Exists.intro _ (And.intro (s) ?_) | refine Hn_by (Exists.intro _ (And.intro (s) ?_))
   repeat (first | refine gT ?_ | refine gF ?_ | refine brT ?_ | refine brF ?_)
   refine brE (fun e => ?_) (fun e => ?_)
   ·refine And.intro (show (0 : Int) <= w64 ((((p.take (k + 1)).map rv).length : Int) - 1) by omega) ?_
    refine And.intro (show w64 ((((p.take (k + 1)).map rv).length : Int) - 1) <= (((p.take (k + 1)).map rv).length : Int) by omega) ?_
    refine And.intro ?_ ?_
    ·intro r hr
     obtain ⟨q,_,rfl⟩:=List.mem_map.1 hr
     rfl
    refine hP k _ (le_by ⟨sl_eq ?_,trivial⟩ trivial (Nat.le_refl _)) ⟨by omega,?_⟩ (by omega)
    ·show ((((p.take (k + 1)).map rv).take (w64 ((((p.take (k + 1)).map rv).length : Int) - 1)).toNat).drop 0) = _
     rw [hw,Int.toNat_natCast,poly_take,Nat.min_eq_right (by omega)]
    ·rw [hc]
     unfold clipN
     rw [if_pos (sgR_zero.1 e)]
     cases k <;> rfl
   ·rw [hc]
    clear hP
    unfold clipN
    rw [if_neg fun e2 => e (sgR_zero.2 e2)]
    exact And.intro (Or.inr rfl) rfl
  ·have g' : ¬ ((((p.take (k + 1)).map rv).length : Nat) : Int) > 0:=g
   omega
def Poly (p : List Rat) : Prop:=AllRF p∧p.length <= 65∧∀ h : p ≠ [],p.getLast h ≠ 0
theorem Poly.last {p : List Rat} (h : Poly p) {k : Nat} (hk : p.length = k + 1) : p.getD k 0 ≠ 0:=by
 have hn : p ≠ []:=fun e => by subst e; simp at hk
 have:=h.2.2 hn
 rw [List.getLast_eq_getElem] at this
 have e : p.getD k 0 = p[p.length - 1]'(by omega):=by
  simp [List.getD,hk]
 rw [e]; exact this
theorem check_spec (gl : List (Nat × AV)) {p : List Rat} (hp : Poly p) : Spec Tryz.prog gl 34 [polyV p] (.int .i64 0):=by
 have hlen:=poly_len p
 have h65:=hp.2.1
 refine spec_fn T_ok mixed_ok 3 Tryz.func34 fn_ok34 (by kernel_rfl) ?_
 refine Hn_in Tryz.f77 Tryz.func77 fn_ok77 (by kernel_rfl) ?_
 refine Hn_in Tryz.f124 Tryz.func124 fn_ok124 (by kernel_rfl) ?_
 refine aw_loop (fun i : Nat => stOf [(0,polyV p),(1,.fn 78 []),(7,.int .i64 (p.length : Int)),(8,.int .i64 (i : Int))] [] 0) (fun i => i <= p.length) (fun i => p.length - i) 0 (Nat.zero_le _)
  (le_by ⟨rfl,rfl,int_eq hlen,rfl,trivial⟩ trivial (Nat.le_refl _)) ?_
 intro i hi P hP
 refine br (fun g => ?_) (fun g => ?_)
 ·have g : i < p.length:=Int.ofNat_lt.1 g
  have s:=valid_rat gl (hp.1.at g)
  refine And.intro (Int.natCast_nonneg i) (Exists.intro _ (And.intro (by rw [Int.toNat_natCast]; exact poly_at g) ?_))
  repeat (first | refine gT ?_ | refine gF ?_ | refine brT ?_ | refine brF ?_)
  refine Hn_cut Tryz.f78 Tryz.func78 fn_ok78 (by kernel_rfl) ?_
  first | refine Exists.intro _ (And.intro (s) ?_) | refine Hn_by (Exists.intro _ (And.intro (s) ?_))
  refine And.intro (Or.inr rfl) (And.intro rfl (And.intro trivial ?_))
  repeat (first | refine gT ?_ | refine gF ?_ | refine brT ?_ | refine brF ?_)
  refine hP (i + 1) _ (le_by ⟨rfl,rfl,rfl,int_eq ?_,trivial⟩ trivial (Nat.le_refl _)) g (by omega)
  have : w64 ((i : Int) + 1) = ((i + 1 : Nat) : Int):=by rw [w64_eq (by omega)]; omega
  exact this
 ·clear hP
  refine And.intro (Or.inr rfl) ?_
  refine And.intro (Or.inr rfl) ?_
  repeat (first | refine gT ?_ | refine gF ?_ | refine brT ?_ | refine brF ?_)
  cases hc : p.length with
  | zero =>
   refine br (fun g => ?_) (fun _ => ?_)
   ·have g' : (((p.map rv).length : Nat) : Int) > 0:=g
    omega
   ·repeat (first | refine gT ?_ | refine gF ?_ | refine brT ?_ | refine brF ?_)
    refine br (fun g => ?_) (fun _ => ?_)
    ·have g' : (((p.map rv).length : Nat) : Int) > 65:=g
     omega
    ·exact And.intro (Or.inr rfl) rfl
  | succ k =>
   refine br (fun _ => ?_) (fun g => ?_)
   ·have hw : w64 (((p.map rv).length : Int) - 1) = (k : Int):=by rw [w64_eq (by omega)]; omega
    have s:=sign_rat gl (hp.1.at (k:=k) (by omega))
    repeat (first | refine gT ?_ | refine gF ?_ | refine brT ?_ | refine brF ?_)
    refine And.intro (show (0 : Int) <= w64 (((p.map rv).length : Int) - 1) by omega) (Exists.intro _ (And.intro (show (p.map rv)[(w64 (((p.map rv).length : Int) - 1)).toNat]? = some (rv (p.getD k 0)) by rw [hw,Int.toNat_natCast]; exact poly_at (by omega)) ?_))
    repeat (first | refine gT ?_ | refine gF ?_ | refine brT ?_ | refine brF ?_)
    first | refine Exists.intro _ (And.intro (s) ?_) | refine Hn_by (Exists.intro _ (And.intro (s) ?_))
    repeat (first | refine gT ?_ | refine gF ?_ | refine brT ?_ | refine brF ?_)
    refine brE (fun e => absurd (sgR_zero.1 e) (hp.last hc)) (fun _ => ?_)
    repeat (first | refine gT ?_ | refine gF ?_ | refine brT ?_ | refine brF ?_)
    refine br (fun g => ?_) (fun _ => ?_)
    ·have g' : (((p.map rv).length : Nat) : Int) > 65:=g
     omega
    ·exact And.intro (Or.inr rfl) rfl
   ·have g' : ¬ (((p.map rv).length : Nat) : Int) > 0:=g
    omega
theorem want_spec (gl : List (Nat × AV)) {l : List (List Rat)} (hl : ∀ p ∈ l,Poly p) (hn : l.length <= 1000000) : Spec Tryz.prog gl 51 [.sl (l.map fun p => [polyV p])] (.tup []):=by
 have hlen : (((l.map fun p => [polyV p]).length : Nat) : Int) = (l.length : Int):=by rw [List.length_map]
 refine spec_fn T_ok mixed_ok 0 Tryz.func51 fn_ok51 (by kernel_rfl) ?_
 refine aw_loop (fun i : Nat => stOf [(5,.sl (l.map fun p => [polyV p])),(6,.int .i64 (l.length : Int)),(7,.int .i64 (i : Int))] [] 0) (fun i => i <= l.length) (fun i => l.length - i) 0 (Nat.zero_le _)
  (le_by ⟨rfl,int_eq hlen,rfl,trivial⟩ trivial (Nat.le_refl _)) ?_
 intro i hi P hP
 refine br (fun g => ?_) (fun g => ?_)
 ·have g : i < l.length:=Int.ofNat_lt.1 g
  have s:=check_spec gl (hl l[i] (List.getElem_mem g))
  refine And.intro (Int.natCast_nonneg i) (Exists.intro _ (And.intro (show (l.map fun p => [polyV p])[((i : Int)).toNat]? = some [polyV l[i]] by rw [Int.toNat_natCast,List.getElem?_map,List.getElem?_eq_getElem g]; rfl) ?_))
  repeat (first | refine gT ?_ | refine gF ?_ | refine brT ?_ | refine brF ?_)
  first | refine Exists.intro _ (And.intro (s) ?_) | refine Hn_by (Exists.intro _ (And.intro (s) ?_))
  repeat (first | refine gT ?_ | refine gF ?_ | refine brT ?_ | refine brF ?_)
  refine hP (i + 1) _ (le_by ⟨rfl,rfl,int_eq ?_,trivial⟩ trivial (Nat.le_refl _)) g (by omega)
  have : w64 ((i : Int) + 1) = ((i + 1 : Nat) : Int):=by rw [w64_eq (by omega)]; omega
  exact this
 ·clear hP
  exact And.intro (Or.inl rfl) rfl
end Ab
end
