import Derived.Test.YtinhfpljdjlomaaGreatXAt5
open Go Go.Proofs
namespace Ab
set_option maxRecDepth 100000
set_option maxHeartbeats 1000000
def maxL : Int -> List Int -> Int
 | m,[] => m
 | m,x :: l => maxL (if m < x then x else m) l
def minL : Int -> List Int -> Int
 | m,[] => m
 | m,x :: l => minL (if x < m then x else m) l
theorem maxL_snoc (l : List Int) (m x : Int) : maxL m (l ++ [x]) = if maxL m l < x then x else maxL m l:=by
 induction l generalizing m with
 | nil => rfl
 | cons y l ih => exact ih _
theorem minL_snoc (l : List Int) (m x : Int) : minL m (l ++ [x]) = if x < minL m l then x else minL m l:=by
 induction l generalizing m with
 | nil => rfl
 | cons y l ih => exact ih _
theorem max_spec (gl : List (Nat × AV)) (a : Int) (l : List Int) (hl : (l.length : Int) <= 1000000) : Spec Tryz.prog gl 143 [.sl (irows .i64 (a :: l))] (.int .i64 (maxL a l)):=by
 refine spec_fn T_ok mixed_ok 0 Tryz.func143 fn_ok143 (by kernel_rfl) ?_
 have hlen : ((irows .i64 (a :: l)).length : Int) = (l.length : Int) + 1:=by rw [irows_len]; simp
 refine br (fun h1 => ?_) (fun h1 => ?_)
 ·have : ((irows .i64 (a :: l)).length : Int) < 1:=h1
  omega
 ·refine And.intro (by decide) (Exists.intro _ (And.intro (irows_at (x:=a) rfl) ?_))
  refine aw_loop (fun k : Nat => stOf [(0,.sl (irows .i64 (a :: l))),(3,.int .i64 (maxL a (l.take k))),(4,.int .i64 ((k : Int) + 1))] [] 0) (fun k => k <= l.length) (fun k => l.length - k) 0 (Nat.zero_le _)
   (le_by ⟨rfl,rfl,rfl,trivial⟩ trivial (Nat.le_refl _)) ?_
  rintro k hk P hP
  refine br (fun h2 => ?_) (fun h2 => ?_)
  ·have hk' : k < l.length:=by
    have : (k : Int) + 1 < ((irows .i64 (a :: l)).length : Int):=h2
    omega
   refine And.intro (show (0 : Int) <= (k : Int) + 1 by omega) (Exists.intro _ (And.intro (irows_at (x:=l[k]) (by
    rw [show ((k : Int) + 1).toNat = k + 1 by omega]; simp)) ?_))
   refine hP (k + 1) _ (le_by ⟨rfl,int_eq (by
    rw [List.take_add_one,List.getElem?_eq_getElem hk',Option.toList,maxL_snoc]),int_eq (by
    show w64 ((k : Int) + 1 + 1) = _
    rw [w64_eq (by omega)]; simp),trivial⟩ trivial (Nat.le_refl _)) (by omega) (by omega)
  ·clear hP
   have hk' : k = l.length:=by
    have : ¬ ((k : Int) + 1 < ((irows .i64 (a :: l)).length : Int)):=h2
    omega
   subst hk'
   rw [List.take_length]
   exact And.intro (Or.inr rfl) rfl
theorem min_spec (gl : List (Nat × AV)) (a : Int) (l : List Int) (hl : (l.length : Int) <= 1000000) : Spec Tryz.prog gl 144 [.sl (irows .i64 (a :: l))] (.int .i64 (minL a l)):=by
 refine spec_fn T_ok mixed_ok 0 Tryz.func144 fn_ok144 (by kernel_rfl) ?_
 have hlen : ((irows .i64 (a :: l)).length : Int) = (l.length : Int) + 1:=by rw [irows_len]; simp
 refine br (fun h1 => ?_) (fun h1 => ?_)
 ·have : ((irows .i64 (a :: l)).length : Int) < 1:=h1
  omega
 ·refine And.intro (by decide) (Exists.intro _ (And.intro (irows_at (x:=a) rfl) ?_))
  refine aw_loop (fun k : Nat => stOf [(0,.sl (irows .i64 (a :: l))),(3,.int .i64 (minL a (l.take k))),(4,.int .i64 ((k : Int) + 1))] [] 0) (fun k => k <= l.length) (fun k => l.length - k) 0 (Nat.zero_le _)
   (le_by ⟨rfl,rfl,rfl,trivial⟩ trivial (Nat.le_refl _)) ?_
  rintro k hk P hP
  refine br (fun h2 => ?_) (fun h2 => ?_)
  ·have hk' : k < l.length:=by
    have : (k : Int) + 1 < ((irows .i64 (a :: l)).length : Int):=h2
    omega
   refine And.intro (show (0 : Int) <= (k : Int) + 1 by omega) (Exists.intro _ (And.intro (irows_at (x:=l[k]) (by
    rw [show ((k : Int) + 1).toNat = k + 1 by omega]; simp)) ?_))
   refine hP (k + 1) _ (le_by ⟨rfl,int_eq (by
    rw [List.take_add_one,List.getElem?_eq_getElem hk',Option.toList,minL_snoc]),int_eq (by
    show w64 ((k : Int) + 1 + 1) = _
    rw [w64_eq (by omega)]; simp),trivial⟩ trivial (Nat.le_refl _)) (by omega) (by omega)
  ·clear hP
   have hk' : k = l.length:=by
    have : ¬ ((k : Int) + 1 < ((irows .i64 (a :: l)).length : Int)):=h2
    omega
   subst hk'
   rw [List.take_length]
   exact And.intro (Or.inr rfl) rfl
structure Gd (x : Bx) : Prop where
 w : x.w = false
 ab : x.a <= x.b
 cd : x.c <= x.d
 a : -MF <= x.a
 b : x.b <= MF
 c : -MF <= x.c
 d : x.d <= MF
theorem gd_max {x : Bx} (h : Gd x) : maxL x.a [x.b,x.c,x.d] <= MF ∧ minL x.a [x.b,x.c,x.d] ≥ -MF:=by
 obtain ⟨_,h1,h2,h3,h4,h5,h6⟩:=h
 unfold MF at *
 simp only [maxL,minL]
 constructor <;> (repeat' split) <;> omega
theorem gvalid_spec {x : Bx} (h : Gd x) : Spec Tryz.prog [] 99 [x.av] (.bool true):=by
 obtain ⟨m1,m2⟩:=gd_max h
 obtain ⟨a,b,c,d,w⟩:=x
 obtain ⟨hw,h1,h2,_,_,_,_⟩:=h
 simp only at hw h1 h2 m1 m2
 subst hw
 refine spec_fn T_ok mixed_ok 1 Tryz.func99 fn_ok99 (by kernel_rfl) ?_
 refine brF ?_
 refine br (fun _ => ?_) (fun g => absurd h1 g)
 repeat (first | refine gT ?_ | refine gF ?_ | refine brT ?_ | refine brF ?_)
 refine br (fun _ => ?_) (fun g => absurd h2 g)
 repeat (first | refine gT ?_ | refine gF ?_ | refine brT ?_ | refine brF ?_)
 refine Hn_by (And.intro ⟨rfl,Nat.le_refl _⟩ (Exists.intro _ (And.intro (max_spec [] a [b,c,d] (by simp)) ?_)))
 repeat (first | refine gT ?_ | refine gF ?_ | refine brT ?_ | refine brF ?_)
 refine br (fun _ => ?_) (fun g => absurd m1 g)
 repeat (first | refine gT ?_ | refine gF ?_ | refine brT ?_ | refine brF ?_)
 refine Hn_by (And.intro ⟨rfl,Nat.le_refl _⟩ (Exists.intro _ (And.intro (min_spec [] a [b,c,d] (by simp)) ?_)))
 repeat (first | refine gT ?_ | refine gF ?_ | refine brT ?_ | refine brF ?_)
 exact And.intro (Or.inr rfl) (congrArg AV.bool (decide_eq_true m2))
theorem gchecked_spec {x : Bx} (h : Gd x) : Spec Tryz.prog [] 69 [x.av] x.av:=by
 have v:=gvalid_spec h
 obtain ⟨a,b,c,d,w⟩:=x
 refine spec_fn T_ok mixed_ok 1 Tryz.func69 fn_ok69 (by kernel_rfl) ?_
 first | refine Exists.intro _ (And.intro (v) ?_) | refine Hn_by (Exists.intro _ (And.intro (v) ?_))
 repeat (first | refine gT ?_ | refine gF ?_ | refine brT ?_ | refine brF ?_)
 exact And.intro (Or.inr rfl) rfl
def hullF (x y : Bx) : Bx:=⟨if y.a < x.a then y.a else x.a,if x.b < y.b then y.b else x.b,if y.c < x.c then y.c else x.c,if x.d < y.d then y.d else x.d,false⟩
theorem hull_gd {x y : Bx} (hx : Gd x) (hy : Gd y) : Gd (hullF x y):=by
 obtain ⟨_,h1,h2,h3,h4,h5,h6⟩:=hx
 obtain ⟨_,k1,k2,k3,k4,k5,k6⟩:=hy
 refine ⟨rfl,?_,?_,?_,?_,?_,?_⟩ <;> simp only [hullF] <;> (repeat' split) <;> omega
theorem ghull_spec {x y : Bx} (hx : Gd x) (hy : Gd y) : Spec Tryz.prog [] 62 [x.av,y.av] (hullF x y).av:=by
 have sx:=gchecked_spec hx
 have sy:=gchecked_spec hy
 have sz:=gchecked_spec (hull_gd hx hy)
 have wx:=hx.w
 have wy:=hy.w
 obtain ⟨ca,cb,cc,cd,cw⟩:=x
 obtain ⟨da,db,dc,dd,dw⟩:=y
 simp only at wx wy
 subst wx wy
 refine spec_fn T_ok mixed_ok 3 Tryz.func62 fn_ok62 (by kernel_rfl) ?_
 refine Hn_in Tryz.f87 Tryz.func87 fn_ok87 (by kernel_rfl) ?_
 refine And.intro (by kernel_rfl) ?_
 first | refine Exists.intro _ (And.intro (sx) ?_) | refine Hn_by (Exists.intro _ (And.intro (sx) ?_))
 refine And.intro rfl ?_
 first | refine Exists.intro _ (And.intro (sy) ?_) | refine Hn_by (Exists.intro _ (And.intro (sy) ?_))
 repeat (first | refine gT ?_ | refine gF ?_ | refine brT ?_ | refine brF ?_)
 refine Hn_in Tryz.f88 Tryz.func88 fn_ok88 (by kernel_rfl) ?_
 refine And.intro (Or.inr rfl) ?_
 first | refine Exists.intro _ (And.intro (sz) ?_) | refine Hn_by (Exists.intro _ (And.intro (sz) ?_))
 refine And.intro (Or.inr rfl) ?_
 refine And.intro (Or.inr rfl) ?_
 rfl
def inB (x y : Bx) : Bool:=and ((hullF x y).a == y.a) (and ((hullF x y).b == y.b) (and ((hullF x y).c == y.c) (and ((hullF x y).d == y.d) true)))
theorem ginside_spec {x y : Bx} (hx : Gd x) (hy : Gd y) : Spec Tryz.prog [] 38 [x.av,y.av] (.bool (inB x y)):=by
 have sy:=gchecked_spec hy
 have hl:=ghull_spec hx hy
 have wy:=hy.w
 unfold inB
 generalize hz : hullF x y = z at hl
 have wz : z.w = false:=by rw [<- hz]; rfl
 obtain ⟨ca,cb,cc,cd,cw⟩:=x
 obtain ⟨da,db,dc,dd,dw⟩:=y
 obtain ⟨za,zb,zc,zd,zw⟩:=z
 simp only at wy wz
 subst wy wz
 refine spec_fn T_ok mixed_ok 1 Tryz.func38 fn_ok38 (by kernel_rfl) ?_
 first | refine Exists.intro _ (And.intro (sy) ?_) | refine Hn_by (Exists.intro _ (And.intro (sy) ?_))
 refine And.intro (by kernel_rfl) ?_
 repeat (first | refine gT ?_ | refine gF ?_ | refine brT ?_ | refine brF ?_ | refine And.intro rfl ?_)
 first | refine Exists.intro _ (And.intro (hl) ?_) | refine Hn_by (Exists.intro _ (And.intro (hl) ?_))
 repeat (first | refine gT ?_ | refine gF ?_ | refine brT ?_ | refine brF ?_ | refine And.intro rfl ?_)
 exact And.intro (Or.inr rfl) (congrArg AV.bool (by simp))
theorem gvalid16_spec {x : Bx} (h : Gd x) : Spec Tryz.prog [] 130 [x.av] (.bool true):=by
 have b : ∀ n : Int,-MF <= n -> n <= MF -> Spec Tryz.prog [] 129 [.int .i64 n] (.bool true):=fun n h1 h2 => by
  have:=fits_spec n
  rwa [show fitB n = true from decide_eq_true ⟨h1,h2⟩] at this
 obtain ⟨a,b',c,d,w⟩:=x
 obtain ⟨hw,h1,h2,h3,h4,h5,h6⟩:=h
 simp only at hw h1 h2 h3 h4 h5 h6
 subst hw
 have s1:=b a h3 (by omega)
 have s2:=b b' (by omega) h4
 have s3:=b c h5 (by omega)
 have s4:=b d (by omega) h6
 refine spec_fn T_ok mixed_ok 0 Tryz.func130 fn_ok130 (by kernel_rfl) ?_
 repeat (first | refine gT ?_ | refine gF ?_ | refine brT ?_ | refine brF ?_)
 first | refine Exists.intro _ (And.intro (s1) ?_) | refine Hn_by (Exists.intro _ (And.intro (s1) ?_))
 repeat (first | refine gT ?_ | refine gF ?_ | refine brT ?_ | refine brF ?_)
 first | refine Exists.intro _ (And.intro (s2) ?_) | refine Hn_by (Exists.intro _ (And.intro (s2) ?_))
 repeat (first | refine gT ?_ | refine gF ?_ | refine brT ?_ | refine brF ?_)
 first | refine Exists.intro _ (And.intro (s3) ?_) | refine Hn_by (Exists.intro _ (And.intro (s3) ?_))
 repeat (first | refine gT ?_ | refine gF ?_ | refine brT ?_ | refine brF ?_)
 first | refine Exists.intro _ (And.intro (s4) ?_) | refine Hn_by (Exists.intro _ (And.intro (s4) ?_))
 repeat (first | refine gT ?_ | refine gF ?_ | refine brT ?_ | refine brF ?_)
 refine br (fun _ => ?_) (fun g => absurd h1 g)
 repeat (first | refine gT ?_ | refine gF ?_ | refine brT ?_ | refine brF ?_)
 exact And.intro (Or.inr rfl) (congrArg AV.bool (decide_eq_true h2))
theorem gwide16_spec {x : Bx} (h : Gd x) : Spec Tryz.prog [] 89 [x.av] (.bool false):=by
 have v:=gvalid16_spec h
 have hw:=h.w
 obtain ⟨a,b,c,d,w⟩:=x
 simp only at hw
 subst hw
 refine spec_fn T_ok mixed_ok 0 Tryz.func89 fn_ok89 (by kernel_rfl) ?_
 repeat (first | refine gT ?_ | refine gF ?_ | refine brT ?_ | refine brF ?_)
 first | refine Exists.intro _ (And.intro (v) ?_) | refine Hn_by (Exists.intro _ (And.intro (v) ?_))
 repeat (first | refine gT ?_ | refine gF ?_ | refine brT ?_ | refine brF ?_)
 exact And.intro (Or.inr rfl) rfl
theorem ghull16_spec {x y : Bx} (hx : Gd x) (hy : Gd y) : Spec Tryz.prog [] 63 [x.av,y.av] (hullF x y).av:=by
 have sx:=gwide16_spec hx
 have sy:=gwide16_spec hy
 obtain ⟨ca,cb,cc,cd,cw⟩:=x
 obtain ⟨da,db,dc,dd,dw⟩:=y
 refine spec_fn T_ok mixed_ok 0 Tryz.func63 fn_ok63 (by kernel_rfl) ?_
 first | refine Exists.intro _ (And.intro (sx) ?_) | refine Hn_by (Exists.intro _ (And.intro (sx) ?_))
 repeat (first | refine gT ?_ | refine gF ?_ | refine brT ?_ | refine brF ?_)
 first | refine Exists.intro _ (And.intro (sy) ?_) | refine Hn_by (Exists.intro _ (And.intro (sy) ?_))
 repeat (first | refine gT ?_ | refine gF ?_ | refine brT ?_ | refine brF ?_)
 exact And.intro (Or.inr rfl) rfl
theorem oEx_gd {x : Int × Int} (hx : Qv x) {B : Bx} (h : oEx x = some B) : -MF <= B.a ∧ B.a <= B.b ∧ B.b <= MF:=by
 unfold oEx at h
 cases hb : bP (Fits (x.1 * 16777216) ∧ ExOk x.1 x.2) with
 | false => rw [hb] at h; cases h
 | true =>
  rw [hb] at h
  cases h
  obtain ⟨_,⟨h1,h2⟩,h3,h4⟩:=bP_iff.1 hb
  have:=(fl_width (N:=x.1) hx.2.2.1).1
  exact ⟨h1,this,show -fl (-x.1) x.2 <= MF by omega⟩
theorem ptO_gd {x y : Int × Int} (hx : Qv x) (hy : Qv y) {re im : Int} (r0 : -9223372036854775808 <= re) (r1 : re <= 9223372036854775807) (i0 : -9223372036854775808 <= im) (i1 : im <= 9223372036854775807) {B : Bx} (h : ptO x y re im = some B) : Gd B:=by
 unfold ptO at h
 simp only [Option.bind_eq_some_iff] at h
 obtain ⟨d,e1,p,e2,q,e3,r,e4,a,e5,b,e6,e7⟩:=h
 have hd:=oSub_qv hy hx e1
 have hp:=oMul_qv hd (tq_qv r0 r1) e2
 have hq:=oAdd_qv hx hp e3
 have hr:=oMul_qv hd (tq_qv i0 i1) e4
 obtain ⟨a1,a2,a3⟩:=oEx_gd hq e5
 obtain ⟨b1,b2,b3⟩:=oEx_gd hr e6
 cases e7
 exact ⟨rfl,a2,b2,a1,a3,b1,b3⟩
theorem atO_gd {re im : Int} (r0 : -9223372036854775808 <= re) (r1 : re <= 9223372036854775807) (i0 : -9223372036854775808 <= im) (i1 : im <= 9223372036854775807) : ∀ {a b : List (Int × Int)} {L : List Bx},Qvs a -> Qvs b -> atO a b re im = some L -> ∀ B ∈ L,Gd B
 | [],_,L,_,_,h => by cases h; intro B hB; cases hB
 | x :: a,[],L,_,_,h => by cases h; intro B hB; cases hB
 | x :: a,y :: b,L,ha,hb,h => by
  unfold atO at h
  cases e : ptO x y re im with
  | none => rw [e] at h; cases h
  | some B =>
   rw [e,Option.bind_some] at h
   cases e2 : atO a b re im with
   | none => rw [e2] at h; cases h
   | some l =>
    rw [e2] at h
    cases h
    intro C hC
    rcases List.mem_cons.1 hC with rfl | hC
    ·exact ptO_gd (ha x (by simp)) (hb y (by simp)) r0 r1 i0 i1 e
    ·exact atO_gd r0 r1 i0 i1 (fun z hz => ha z (by simp [hz])) (fun z hz => hb z (by simp [hz])) e2 C hC
end Ab
