import Derived.Test.YtinhfpljdjlomaaGreatXExactT
open Go Go.Proofs
namespace Ab
set_option maxRecDepth 100000
set_option maxHeartbeats 1000000
noncomputable def bP (p : Prop) : Bool:=@decide p (Classical.propDecidable _)
theorem bP_true {p : Prop} (h : p) : bP p = true:=@decide_eq_true _ (Classical.propDecidable _) h
theorem bP_false {p : Prop} (h : ¬ p) : bP p = false:=@decide_eq_false _ (Classical.propDecidable _) h
theorem bP_iff {p : Prop} : bP p = true ↔ p:=@decide_eq_true_iff _ (Classical.propDecidable _)
def oQ (n d : Int) (ok : Bool) : Option (Int × Int):=match ok with
 | true => some (n / Int.gcd n d,d / Int.gcd n d)
 | false => none
def oMul (x y : Int × Int) : Option (Int × Int):=oQ (x.1 * y.1) (x.2 * y.2) (and (ftB (x.1 * y.1)) (ftB (x.2 * y.2)))
def oAdd (x y : Int × Int) : Option (Int × Int):=oQ (x.1 * y.2 + y.1 * x.2) (x.2 * y.2) (and (ftB (x.1 * y.2)) (and (ftB (y.1 * x.2)) (and (ftB (x.1 * y.2 + y.1 * x.2)) (ftB (x.2 * y.2)))))
def oSub (x y : Int × Int) : Option (Int × Int):=oQ (x.1 * y.2 - y.1 * x.2) (x.2 * y.2) (and (ftB (x.1 * y.2)) (and (ftB (y.1 * x.2)) (and (ftB (x.1 * y.2 - y.1 * x.2)) (ftB (x.2 * y.2)))))
def qAV : Option (Int × Int) -> AV
 | some q => .tup [mkR q.1 q.2,.int .i64 0]
 | none => badQ
theorem oQ_av (n d : Int) (b : Bool) : resQ n d b = qAV (oQ n d b):=by cases b <;> rfl
theorem mul_av (x y : Int × Int) : mulR x.1 x.2 y.1 y.2 = qAV (oMul x y):=oQ_av _ _ _
theorem add_av (x y : Int × Int) : addR x.1 x.2 y.1 y.2 = qAV (oAdd x y):=oQ_av _ _ _
theorem sub_av (x y : Int × Int) : subR x.1 x.2 y.1 y.2 = qAV (oSub x y):=oQ_av _ _ _
def Qv (x : Int × Int) : Prop:=Qn x.1 x.2
theorem oQ_qv {n d : Int} {b : Bool} {z : Int × Int} (h : oQ n d b = some z) (hn : b = true -> Fits n) (hd : b = true -> Fits d) (d0 : 0 < d) : Qv z:=by
 cases b with
 | false => cases h
 | true => cases h; exact qn_reduce (hn rfl) (hd rfl) d0
theorem oMul_qv {x y z : Int × Int} (hx : Qv x) (hy : Qv y) (h : oMul x y = some z) : Qv z:=by
 refine oQ_qv h (fun e => ?_) (fun e => ?_) (Int.mul_pos hx.2.2.1 hy.2.2.1)
 all_goals simp only [Bool.and_eq_true,Bool.and_eq_true] at e
 ·exact ftB_iff.1 e.1
 ·exact ftB_iff.1 e.2
theorem oAdd_qv {x y z : Int × Int} (hx : Qv x) (hy : Qv y) (h : oAdd x y = some z) : Qv z:=by
 refine oQ_qv h (fun e => ?_) (fun e => ?_) (Int.mul_pos hx.2.2.1 hy.2.2.1)
 all_goals simp only [Bool.and_eq_true] at e
 ·exact ftB_iff.1 e.2.2.1
 ·exact ftB_iff.1 e.2.2.2
theorem oSub_qv {x y z : Int × Int} (hx : Qv x) (hy : Qv y) (h : oSub x y = some z) : Qv z:=by
 refine oQ_qv h (fun e => ?_) (fun e => ?_) (Int.mul_pos hx.2.2.1 hy.2.2.1)
 all_goals simp only [Bool.and_eq_true] at e
 ·exact ftB_iff.1 e.2.2.1
 ·exact ftB_iff.1 e.2.2.2
noncomputable def oEx (x : Int × Int) : Option Bx:=match bP (Fits (x.1 * 16777216) ∧ ExOk x.1 x.2) with
 | true => some (exB x.1 x.2)
 | false => none
def bAV : Option Bx -> AV
 | some b => .tup [b.av,.int .i64 0]
 | none => .tup [bx 0 0 0 0 false,.int .i64 2]
theorem small_zero : Spec Tryz.prog [] 68 [mkI false []] (.tup [.int .i64 0,.bool true]):=by
 have:=(small_int [] (z:=0) (fits_i64 (by decide) (by decide))).1 (by decide)
 rw [mkZ_zero] at this
 exact this
theorem rsmall_zero : Spec Tryz.prog [] 128 [mkI false []] (.tup [.int .i64 0,.bool true]):=by
 have:=(rsmall_int [] (z:=0) (fits_i64 (by decide) (by decide))).1 (by decide)
 rw [mkZ_zero] at this
 exact this
theorem exact_bigF {nn mn on : Bool} {nl dl ml el ol pl : List Int} {dn en pn : Bool} (v : Spec Tryz.prog [] 64 [mkQ nn nl dn dl] (.bool true)) (mo : Spec Tryz.prog [] 66 [] (mkQ on ol pn pl))
  (m : Spec Tryz.prog [] 65 [mkQ nn nl dn dl,mkQ on ol pn pl] (.tup [mkQ mn ml en el,.int .i64 0]))
  (f1 : Spec Tryz.prog [] 67 [mkQ nn nl dn dl,.int .i64 24] (.tup [mkI false [],.int .i64 2])) :
  Spec Tryz.prog [] 37 [mkQ nn nl dn dl] (.tup [bx 0 0 0 0 false,.int .i64 2]):=by
 refine spec_fn T_ok mixed_ok 1 Tryz.func37 fn_ok37 (by kernel_rfl) ?_
 first | refine Exists.intro _ (And.intro (v) ?_) | refine Hn_by (Exists.intro _ (And.intro (v) ?_))
 repeat (first | refine gT ?_ | refine gF ?_ | refine brT ?_ | refine brF ?_)
 refine And.intro (by kernel_rfl) ?_
 repeat (first | refine gT ?_ | refine gF ?_ | refine brT ?_ | refine brF ?_ | refine And.intro rfl ?_)
 first | refine Exists.intro _ (And.intro (mo) ?_) | refine Hn_by (Exists.intro _ (And.intro (mo) ?_))
 repeat (first | refine gT ?_ | refine gF ?_ | refine brT ?_ | refine brF ?_ | refine And.intro rfl ?_)
 first | refine Exists.intro _ (And.intro (m) ?_) | refine Hn_by (Exists.intro _ (And.intro (m) ?_))
 repeat (first | refine gT ?_ | refine gF ?_ | refine brT ?_ | refine brF ?_ | refine And.intro rfl ?_)
 refine aw_loop (fun _ : Unit => stOf [(2,.bp 1 0),(6,.bp 3 0),(28,.ms 4 0 2),(29,.int .i64 2),(30,.int .i64 0)] [(1,.box [.int .i64 0,.int .i64 0,.int .i64 0,.int .i64 0,.bool false]),(3,.box [.int .i64 0,.int .i64 0]),(4,.arr (67,4) [[.bool nn,lim nl,.bool dn,lim dl],[.bool mn,lim ml,.bool en,lim el]] true)] 5) (fun _ => True) (fun _ => 0) () trivial
  (le_by ⟨rfl,rfl,rfl,rfl,rfl,trivial⟩ ⟨rfl,rfl,rfl,trivial⟩ (Nat.le_refl _)) ?_
 intro _ _ P hP
 clear hP
 repeat (first | refine gT ?_ | refine gF ?_ | refine brT ?_ | refine brF ?_)
 refine And.intro (by decide) (And.intro (by decide) (Exists.intro _ (And.intro rfl ?_)))
 repeat (first | refine gT ?_ | refine gF ?_ | refine brT ?_ | refine brF ?_)
 first | refine Exists.intro _ (And.intro (f1) ?_) | refine Hn_by (Exists.intro _ (And.intro (f1) ?_))
 repeat (first | refine gT ?_ | refine gF ?_ | refine brT ?_ | refine brF ?_)
 first | refine Exists.intro _ (And.intro (small_zero) ?_) | refine Hn_by (Exists.intro _ (And.intro (small_zero) ?_))
 repeat (first | refine gT ?_ | refine gF ?_ | refine brT ?_ | refine brF ?_)
 exact And.intro (Or.inr rfl) rfl
theorem exact16_bad {nn dn zn zd mn md : Bool} {nl dl zl zm ml mm : List Int} (v : Spec Tryz.prog [] 79 [mkQ nn nl dn dl] (.bool true)) (zo : Spec Tryz.prog [] 70 [.int .i64 0,.int .i64 1] (.tup [mkQ zn zl zd zm,.int .i64 0]))
  (sb : Spec Tryz.prog [] 83 [mkQ zn zl zd zm,mkQ nn nl dn dl] (.tup [mkQ mn ml md mm,.int .i64 0]))
  (f1 : Spec Tryz.prog [] 127 [mkQ nn nl dn dl,.int .i64 24] (.tup [mkI false [],.int .i64 2])) (f2 : Spec Tryz.prog [] 127 [mkQ mn ml md mm,.int .i64 24] (.tup [mkI false [],.int .i64 2])) :
  Spec Tryz.prog [] 86 [mkQ nn nl dn dl] (.tup [bx 0 0 0 0 false,.int .i64 2]):=by
 refine spec_fn T_ok mixed_ok 0 Tryz.func86 fn_ok86 (by kernel_rfl) ?_
 first | refine Exists.intro _ (And.intro (v) ?_) | refine Hn_by (Exists.intro _ (And.intro (v) ?_))
 repeat (first | refine gT ?_ | refine gF ?_ | refine brT ?_ | refine brF ?_)
 first | refine Exists.intro _ (And.intro (zo) ?_) | refine Hn_by (Exists.intro _ (And.intro (zo) ?_))
 first | refine Exists.intro _ (And.intro (sb) ?_) | refine Hn_by (Exists.intro _ (And.intro (sb) ?_))
 first | refine Exists.intro _ (And.intro (f1) ?_) | refine Hn_by (Exists.intro _ (And.intro (f1) ?_))
 first | refine Exists.intro _ (And.intro (f2) ?_) | refine Hn_by (Exists.intro _ (And.intro (f2) ?_))
 first | refine Exists.intro _ (And.intro (rsmall_zero) ?_) | refine Hn_by (Exists.intro _ (And.intro (rsmall_zero) ?_))
 first | refine Exists.intro _ (And.intro (rsmall_zero) ?_) | refine Hn_by (Exists.intro _ (And.intro (rsmall_zero) ?_))
 repeat (first | refine gT ?_ | refine gF ?_ | refine brT ?_ | refine brF ?_)
 exact And.intro (Or.inr rfl) rfl
theorem fits_opp {n : Int} : Fits (-n * 16777216) ↔ Fits (n * 16777216):=by unfold Fits; rw [show az (-n * 16777216) = az (n * 16777216) by unfold az; omega]
theorem exact_tot {x : Int × Int} (h : Qv x) : Spec Tryz.prog [] 37 [mkR x.1 x.2] (bAV (oEx x)) ∧ Spec Tryz.prog [] 86 [mkR x.1 x.2] (bAV (oEx x)):=by
 obtain ⟨n,d⟩:=x
 obtain ⟨hn,hd,d0,hg⟩:=h
 simp only at hn hd d0 hg ⊢
 unfold oEx
 by_cases hs : Fits (n * 16777216)
 ·obtain ⟨a1,a2⟩:=exact_int hn hd d0 hg hs
  obtain ⟨b1,b2⟩:=exact16_int hn hd d0 hg hs
  by_cases he : ExOk n d
  ·rw [bP_true ⟨hs,he⟩]; exact ⟨a1 he,b1 he⟩
  ·rw [bP_false (fun e => he e.2)]; exact ⟨a2 he,b2 he⟩
 ·rw [bP_false (fun e => hs e.1)]
  have fn : Fits (-n):=fits_neg hn
  have hg2 : Int.gcd (-n) d = 1:=by rw [Int.neg_gcd]; exact hg
  have zo:=rof_int [] (n:=0) (d:=1) (by decide) (by decide) (by decide) (by decide)
  rw [show (Int.gcd 0 1 : Int) = 1 from rfl,Int.ediv_one,Int.ediv_one] at zo
  exact ⟨exact_bigF (ratvalid_int [] hn hd d0 hg) (minusOne_spec []) (neg_rat hn hd d0 hg) (floor_bad [] hn hd d0 hg hs),
   exact16_bad (r2valid_int [] hn hd d0 hg) zo (rsub_zero hn hd d0 hg) (rfloor_bad [] hn hd d0 hg hs) (rfloor_bad [] fn hd d0 hg2 (fun e => hs (fits_opp.1 e)))⟩
end Ab
