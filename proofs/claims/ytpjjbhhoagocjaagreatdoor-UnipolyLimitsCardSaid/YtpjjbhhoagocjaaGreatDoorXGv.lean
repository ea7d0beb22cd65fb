import Derived.Test.YtpjjbhhoagocjaaGreatDoorXDigit
import Derived.Laws.MathBits
import Derived.Test.YtpjjbhhoagocjaaGreatDoorXStep
import Derived.Test.YtpjjbhhoagocjaaGreatDoorXFT
section
open Go Go.Proofs
namespace Ab
set_option maxRecDepth 100000
set_option maxHeartbeats 1000000
theorem u64m (n : Int) : u64 n = n % 18446744073709551616:=u64_eq n
theorem sub_raw {ui p b d : Int} (hu : 0 <= ui∧ui < Dg.B) (hp : 0 <= p∧p < 18446744073709551616) (hb : 0 <= b∧b <= 1) (hd : d = ui - p % Dg.B - b) :
  u32 (u64 (u64 (u64 ui - Go.bits .and .u64 p 4294967295) - b)) = d % Dg.B∧(u64 (u64 (u64 ui - Go.bits .and .u64 p 4294967295) - b)).fdiv (2 ^ 63) = -(d / Dg.B):=by
 have e : Go.bits .and .u64 p 4294967295 = p % 4294967296:=and_low32 p hp.1 hp.2
 simp only [Dg.B] at *
 have e2 : u64 (u64 (u64 ui - p % 4294967296) - b) = d % 18446744073709551616:=by
  rw [u64m,u64m,u64m]; omega
 rw [e,e2,shr63 (by omega),u32_eq]
 omega
theorem sub_raw2 {un c b d : Int} (hu : 0 <= un∧un < Dg.B) (hc : 0 <= c∧c < Dg.B) (hb : 0 <= b∧b <= 1) (hd : d = un - c - b) :
  u32 (u64 (u64 (u64 un - c) - b)) = d % Dg.B∧(u64 (u64 (u64 un - c) - b)).fdiv (2 ^ 63) = -(d / Dg.B)∧-1 <= d / Dg.B∧d / Dg.B <= 0:=by
 simp only [Dg.B] at *
 have e2 : u64 (u64 (u64 un - c) - b) = d % 18446744073709551616:=by
  rw [u64m,u64m,u64m]; omega
 rw [e2,shr63 (by omega),u32_eq]
 omega
theorem upd_look {a b : Blk} {l : List (Nat × Blk)} : upd 0 (some b) (fun k => look ((0,a) :: l) k) = fun k => look ((0,b) :: l) k:=by
 funext k
 show (bif Nat.beq k 0 then some b else look ((0,a) :: l) k) = look ((0,b) :: l) k
 unfold look
 cases Nat.beq k 0 <;> rfl
theorem take_in (gl : List (Nat × AV)) {N : Nat} {s : St} {K : AV -> St -> Prop} {u v o : List Int} {j n : Nat} {q : Int} (hu : Dg.D u) (hv : Dg.D v) (hvl : v.length = n) (hn : 2 <= n) (hj : j + n < u.length) (hul : u.length <= 1048576) (hq : 0 <= q∧q < Dg.B) (hV : 0 < Dg.val v)
  (hW : Dg.val (u.drop j) < Dg.B ^ (n + 1)) (q1 : Dg.val (u.drop j) / Dg.val v <= q) (q2 : q <= Dg.val (u.drop j) / Dg.val v + 1) (h0 : s.hp 0 = some (.arr (60,1) (irows .u32 u) true)) (h1 : s.hp 1 = some (.arr (60,1) (irows .u32 o) true)) (hnx : s.nx <= 2)
  (hK : ∀ w : List Int,Dg.TakeOk u w j (Dg.val (u.drop j) / Dg.val v * Dg.val v) -> K (.int .u32 (Dg.val (u.drop j) / Dg.val v)) ⟨s.tm,(stOf [] [(0,.arr (60,1) (irows .u32 w) true),(1,.arr (60,1) (irows .u32 o) true)] 2).hp,2⟩) :
  Hn Tryz.prog T gl (N + 1) (.fn 167) [.ms 0 0 u.length,.int .i64 (j : Int),lim v,.int .u64 q] s K:=by
 have lv : ((irows .u32 v).length : Int) = n:=by rw [irows_len,hvl]
 have hz0:=Dg.drop_zero hu (by omega) hW
 refine Hn_in Tryz.f167 Tryz.func167 fn_ok167 (by kernel_rfl) ?_
 refine aw_loop (fun x : Nat × List Int × Int × Int => stOf [(0,.ms 0 0 u.length),(1,.int .i64 (j : Int)),(2,lim v),(3,.int .u64 q),(9,.int .u64 x.2.2.1),(10,.int .u64 x.2.2.2),(18,.int .i64 (n : Int)),(19,.int .i64 (x.1 : Int))]
   [(0,.arr (60,1) (irows .u32 x.2.1) true),(1,.arr (60,1) (irows .u32 o) true)] 2)
  (fun x => x.1 <= n∧Dg.D x.2.1∧x.2.1.length = u.length∧(∀ k,j + x.1 <= k -> x.2.1.getD k 0 = u.getD k 0)∧x.2.1.take j = u.take j∧(0 <= x.2.2.1∧x.2.2.1 < Dg.B)∧(0 <= x.2.2.2∧x.2.2.2 <= 1) ∧
   Dg.val x.2.1 + Dg.B ^ j * (q * Dg.val (v.take x.1)) = Dg.val u + Dg.B ^ x.1 * Dg.B ^ j * (x.2.2.1 + x.2.2.2)) (fun x => n - x.1) (0,u,0,0)
  ⟨Nat.zero_le _,hu,rfl,fun _ _ => rfl,rfl,⟨Int.le_refl 0,by show (0 : Int) < Dg.B; decide⟩,⟨Int.le_refl 0,by show (0 : Int) <= 1; decide⟩,by simp [Dg.val]⟩
  (le_by ⟨rfl,rfl,rfl,rfl,rfl,rfl,int_eq lv,rfl,trivial⟩ ⟨h0,h1,trivial⟩ hnx) ?_
 rintro ⟨i,w,c,b⟩ ⟨hi,hw,hwl,hwz,hwt,hc,hb,hval⟩ P hP
 simp only at hi hw hwl hwz hwt hc hb hval
 refine br (fun h2 => ?_) (fun h2 => ?_)
 ·have hin : i < n:=by have : (i : Int) < (n : Int):=h2; omega
  have vb:=Dg.getD_bd hv i
  have wb:=Dg.getD_bd hw (j + i)
  have iv : (irows .u32 v)[((i : Int)).toNat]? = some [.int .u32 (v.getD i 0)]:=irows_at (getD_some (by omega))
  have kI : w64 ((j : Int) + i) = ((j + i : Nat) : Int):=by rw [w64_eq (by omega)]; omega
  have iw : (irows .u32 w)[0 + (w64 ((j : Int) + i)).toNat]? = some [.int .u32 (w.getD (j + i) 0)]:=irows_at (by rw [kI,Nat.zero_add]; exact getD_some (by simp; omega))
  have k0 : 0 <= w64 ((j : Int) + i):=by omega
  have k1 : w64 ((j : Int) + i) < ((u.length : Nat) : Int):=by omega
  obtain ⟨p,hp⟩ : ∃ p,p = q * v.getD i 0 + c:=⟨_,rfl⟩
  have qv:=Int.mul_nonneg hq.1 vb.1
  have hp1 : p < 18446744073709551616:=by
   have a : q * v.getD i 0 <= (Dg.B - 1) * (Dg.B - 1):=Int.mul_le_mul (by omega) (by omega) vb.1 (by decide)
   simp only [Dg.B] at *
   omega
  have ep : u64 (u64 (q * u64 (v.getD i 0)) + c) = p:=by
   rw [u64_in (n:=v.getD i 0) (by simp only [Dg.B] at *; omega),u64_in (n:=q * v.getD i 0) (by omega),<- hp,u64_in (by omega)]
  obtain ⟨d,hd⟩ : ∃ d,d = w.getD (j + i) 0 - p % Dg.B - b:=⟨_,rfl⟩
  obtain ⟨f1,f2⟩:=sub_raw wb (p:=p) ⟨by omega,hp1⟩ hb hd
  rw [<- ep] at f1 f2
  have e4 : (u64 (u64 (q * u64 (v.getD i 0)) + c)).fdiv (2 ^ 32) = p / Dg.B:=by rw [ep,shr32 (by omega)]
  have hw2 : w64 ((i : Int) + 1) = ((i + 1 : Nat) : Int):=by rw [w64_eq (by omega)]; omega
  refine And.intro (show (0 : Int) <= (i : Int) by omega) (Exists.intro _ (And.intro iv ?_))
  refine And.intro (by decide) ?_
  refine And.intro k0 (And.intro k1 (Exists.intro _ (And.intro iw ?_)))
  refine And.intro k0 (And.intro k1 (Exists.intro _ (And.intro iw ?_)))
  refine And.intro (by decide) ?_
  refine hP (i + 1,w.set (j + i) (d % Dg.B),p / Dg.B,-(d / Dg.B)) _ (le_by ⟨rfl,rfl,rfl,rfl,int_eq e4,int_eq f2,rfl,int_eq hw2,trivial⟩ ⟨(show some (Blk.arr (60,1) ((irows .u32 w).set (0 + (w64 ((j : Int) + i)).toNat) [.int .u32 (u32 (u64 (u64 (u64 (w.getD (j + i) 0) - Go.bits .and .u64 (u64 (u64 (q * u64 (v.getD i 0)) + c)) 4294967295) - b)))]) true) = _ by rw [f1,kI,Nat.zero_add,irows_set]; rfl),rfl,trivial⟩ (Nat.le_refl _))
   ⟨by show i + 1 <= n; omega,hw.set (by simp only [Dg.B]; omega) (by simp only [Dg.B]; omega),by simp [hwl],fun k hk => ?_,(Dg.set_take_same w _ (by omega)).trans hwt,?_,?_,?_⟩ (by show n - (i + 1) < n - i; omega)
  ·have hk' : j + (i + 1) <= k:=hk
   exact (Dg.getD_set_ne w _ (by omega)).trans (hwz k (by omega))
  ·show 0 <= p / Dg.B∧p / Dg.B < Dg.B
   simp only [Dg.B]; omega
  ·show 0 <= -(d / Dg.B)∧-(d / Dg.B) <= 1
   simp only [Dg.B] at *; omega
  ·show Dg.val (w.set (j + i) (d % Dg.B)) + Dg.B ^ j * (q * Dg.val (v.take (i + 1))) = Dg.val u + Dg.B ^ (i + 1) * Dg.B ^ j * (p / Dg.B + -(d / Dg.B))
   rw [Dg.val_set _ _ _ (by omega),Dg.take_succ,show j + i = i + j by omega,Int.pow_add,Int.pow_succ]
   rw [show i + j = j + i by omega]
   exact Dg.sub_step hp hd hval
 ·have hin : i = n:=by have : ¬ (i : Int) < (n : Int):=h2; omega
  subst hin
  clear hP
  rw [List.take_of_length_le (Nat.le_of_eq hvl)] at hval
  have wb:=Dg.getD_bd hw (j + i)
  have kI : w64 ((j : Int) + ((irows .u32 v).length : Int)) = ((j + i : Nat) : Int):=by rw [lv,w64_eq (by omega)]; omega
  have iw : (irows .u32 w)[0 + (w64 ((j : Int) + ((irows .u32 v).length : Int))).toNat]? = some [.int .u32 (w.getD (j + i) 0)]:=irows_at (by rw [kI,Nat.zero_add]; exact getD_some (by simp; omega))
  have k0 : 0 <= w64 ((j : Int) + ((irows .u32 v).length : Int)):=by omega
  have k1 : w64 ((j : Int) + ((irows .u32 v).length : Int)) < ((u.length : Nat) : Int):=by omega
  obtain ⟨d,hd⟩ : ∃ d,d = w.getD (j + i) 0 - c - b:=⟨_,rfl⟩
  obtain ⟨f1,f2,d1,d2⟩:=sub_raw2 wb hc hb hd
  obtain ⟨x,hx⟩ : ∃ x,x = w.set (j + i) (d % Dg.B):=⟨_,rfl⟩
  have xl : x.length = u.length:=by rw [hx]; simp [hwl]
  have xD : Dg.D x:=by rw [hx]; exact hw.set (by simp only [Dg.B]; omega) (by simp only [Dg.B]; omega)
  have xt : x.take j = u.take j:=by rw [hx]; exact (Dg.set_take_same w _ (by omega)).trans hwt
  have xz : ∀ k,j + i + 1 <= k -> x.getD k 0 = u.getD k 0:=fun k hk => by rw [hx]; exact (Dg.getD_set_ne w _ (by omega)).trans (hwz k (by omega))
  have xd : Dg.val (x.drop (j + i + 1)) = 0:=by rw [Dg.drop_same xl xz]; exact hz0
  have xv : Dg.val x = Dg.val u - Dg.B ^ j * (q * Dg.val v - Dg.B ^ (i + 1) * -(d / Dg.B)):=by
   have e2:=Int.emod_add_mul_ediv d Dg.B
   rw [hx,Dg.val_set _ _ _ (by omega),Int.pow_add,Int.pow_succ]
   generalize d % Dg.B = r1 at *
   generalize d / Dg.B = r2 at *
   generalize Dg.B ^ j = Y at *
   generalize Dg.B ^ i = X at *
   subst hd
   grind
  refine And.intro k0 (And.intro k1 (Exists.intro _ (And.intro iw ?_)))
  refine And.intro k0 (And.intro k1 (Exists.intro _ (And.intro iw ?_)))
  refine And.intro (by decide) ?_
  refine brE (fun h3 => ?_) (fun h3 => ?_)
  ·have h3' : -(d / Dg.B) = 0:=by rw [<- f2]; exact h3
   rw [h3',Int.mul_zero,Int.sub_zero] at xv
   have hqT:=Dg.take_end1 xD xl (by omega) xt hV q1 xv
   have ok : Dg.TakeOk u x j (Dg.val (u.drop j) / Dg.val v * Dg.val v):=⟨xD,xl,xt,by rw [<- hqT]; exact xv⟩
   refine And.intro (Or.inr rfl) ?_
   have hk:=hK x ok
   have eq : IntKind.u32.wrap q = Dg.val (u.drop j) / Dg.val v:=by rw [<- hqT]; exact u32_in (by simp only [Dg.B] at *; omega)
   have e1 : upd 0 (some (Blk.arr (60,1) ((irows .u32 w).set (0 + (w64 ((j : Int) + ((irows .u32 v).length : Int))).toNat) [.int .u32 (u32 (u64 (u64 (u64 (w.getD (j + i) 0) - c) - b)))]) true)) (fun k => look [(0,.arr (60,1) (irows .u32 w) true),(1,.arr (60,1) (irows .u32 o) true)] k) =
     (stOf [] [(0,.arr (60,1) (irows .u32 x) true),(1,.arr (60,1) (irows .u32 o) true)] 2).hp:=by
    rw [f1,kI,Nat.zero_add,Int.toNat_natCast,irows_set,<- hx]
    exact upd_look
   rw [<- e1,<- eq] at hk
   exact hk
  ·have h3' : d / Dg.B = -1:=by
    have : -(d / Dg.B) ≠ 0:=fun e => h3 (f2.trans e)
    omega
   rw [h3',show - -1 = (1 : Int) from rfl,Int.mul_one] at xv
   have hqT:=Dg.take_neg xD xl (by omega) xt hV q2 xd xv
   have hq1 : 1 <= q:=by
    have : 0 <= Dg.val (u.drop j) / Dg.val v:=Int.ediv_nonneg (Dg.val_nonneg (hu.drop j)) (by omega)
    omega
   clear hval hwz hwt f2 d1 d2 h3 hc hb
   refine aw_loop (fun y : Nat × List Int × Int => stOf [(0,.ms 0 0 u.length),(1,.int .i64 (j : Int)),(2,lim v),(3,.int .u64 q),(9,.int .u64 y.2.2),(81,.int .i64 (i : Int)),(82,.int .i64 (y.1 : Int))]
     [(0,.arr (60,1) (irows .u32 y.2.1) true),(1,.arr (60,1) (irows .u32 o) true)] 2)
    (fun y => y.1 <= i∧Dg.D y.2.1∧y.2.1.length = u.length∧(∀ k,j + y.1 <= k -> y.2.1.getD k 0 = x.getD k 0)∧y.2.1.take j = u.take j∧(0 <= y.2.2∧y.2.2 <= 1) ∧
     Dg.val y.2.1 + Dg.B ^ y.1 * Dg.B ^ j * y.2.2 = Dg.val x + Dg.B ^ j * Dg.val (v.take y.1)) (fun y => i - y.1) (0,x,0)
    ⟨Nat.zero_le _,xD,xl,fun _ _ => rfl,xt,⟨Int.le_refl 0,by show (0 : Int) <= 1; decide⟩,by simp [Dg.val]⟩
    (le_by ⟨rfl,rfl,rfl,rfl,rfl,int_eq lv,rfl,trivial⟩ ⟨(show some (Blk.arr (60,1) ((irows .u32 w).set (0 + (w64 ((j : Int) + ((irows .u32 v).length : Int))).toNat) [.int .u32 (u32 (u64 (u64 (u64 (w.getD (j + i) 0) - c) - b)))]) true) = _ by rw [f1,kI,Nat.zero_add,Int.toNat_natCast,irows_set,<- hx]),rfl,trivial⟩ (Nat.le_refl _)) ?_
   rintro ⟨m,y,c⟩ ⟨hm,hy,hyl,hyz,hyt,hc,hval⟩ P hP
   simp only at hm hy hyl hyz hyt hc hval
   refine br (fun h4 => ?_) (fun h4 => ?_)
   ·have hmi : m < i:=by have : (m : Int) < (i : Int):=h4; omega
    have vb:=Dg.getD_bd hv m
    have yb:=Dg.getD_bd hy (j + m)
    have iv : (irows .u32 v)[((m : Int)).toNat]? = some [.int .u32 (v.getD m 0)]:=irows_at (getD_some (by omega))
    have kM : w64 ((j : Int) + m) = ((j + m : Nat) : Int):=by rw [w64_eq (by omega)]; omega
    have iy : (irows .u32 y)[0 + (w64 ((j : Int) + m)).toNat]? = some [.int .u32 (y.getD (j + m) 0)]:=irows_at (by rw [kM,Nat.zero_add]; exact getD_some (by simp; omega))
    have m0 : 0 <= w64 ((j : Int) + m):=by omega
    have m1 : w64 ((j : Int) + m) < ((u.length : Nat) : Int):=by omega
    obtain ⟨t,ht⟩ : ∃ t,t = y.getD (j + m) 0 + v.getD m 0 + c:=⟨_,rfl⟩
    have et : u64 (u64 (u64 (y.getD (j + m) 0) + u64 (v.getD m 0)) + c) = t:=by
     simp only [Dg.B] at vb yb
     rw [u64_in (n:=y.getD (j + m) 0) (by omega),u64_in (n:=v.getD m 0) (by omega),u64_in (n:=y.getD (j + m) 0 + v.getD m 0) (by omega),<- ht,u64_in (by omega)]
    have e3 : u32 (u64 (u64 (u64 (y.getD (j + m) 0) + u64 (v.getD m 0)) + c)) = t % Dg.B:=by rw [et,u32_eq]
    have e4 : (u64 (u64 (u64 (y.getD (j + m) 0) + u64 (v.getD m 0)) + c)).fdiv (2 ^ 32) = t / Dg.B:=by rw [et,shr32 (by omega)]
    have hw2 : w64 ((m : Int) + 1) = ((m + 1 : Nat) : Int):=by rw [w64_eq (by omega)]; omega
    refine And.intro (by kernel_rfl) ?_
    repeat (first | refine gT ?_ | refine gF ?_ | refine brT ?_ | refine brF ?_ | refine And.intro rfl ?_)
    refine And.intro m0 (And.intro m1 ?_)
    repeat (first | refine gT ?_ | refine gF ?_ | refine brT ?_ | refine brF ?_ | refine And.intro rfl ?_)
    refine Exists.intro _ (And.intro iy ?_)
    repeat (first | refine gT ?_ | refine gF ?_ | refine brT ?_ | refine brF ?_ | refine And.intro rfl ?_)
    refine And.intro (show (0 : Int) <= (m : Int) by omega) (Exists.intro _ (And.intro iv ?_))
    repeat (first | refine gT ?_ | refine gF ?_ | refine brT ?_ | refine brF ?_ | refine And.intro rfl ?_)
    refine And.intro m0 (And.intro m1 (Exists.intro _ (And.intro iy ?_)))
    refine And.intro (by decide) ?_
    refine hP (m + 1,y.set (j + m) (t % Dg.B),t / Dg.B) _ (le_by ⟨rfl,rfl,rfl,rfl,int_eq e4,rfl,int_eq hw2,trivial⟩ ⟨(show some (Blk.arr (60,1) ((irows .u32 y).set (0 + (w64 ((j : Int) + m)).toNat) [.int .u32 (u32 (u64 (u64 (u64 (y.getD (j + m) 0) + u64 (v.getD m 0)) + c)))]) true) = _ by rw [e3,kM,Nat.zero_add,irows_set]; rfl),rfl,trivial⟩ (Nat.le_refl _))
     ⟨by show m + 1 <= i; omega,hy.set (by simp only [Dg.B]; omega) (by simp only [Dg.B]; omega),by simp [hyl],fun k hk => ?_,(Dg.set_take_same y _ (by omega)).trans hyt,?_,?_⟩ (by show i - (m + 1) < i - m; omega)
    ·have hk' : j + (m + 1) <= k:=hk
     exact (Dg.getD_set_ne y _ (by omega)).trans (hyz k (by omega))
    ·show 0 <= t / Dg.B∧t / Dg.B <= 1
     simp only [Dg.B] at *; omega
    ·show Dg.val (y.set (j + m) (t % Dg.B)) + Dg.B ^ (m + 1) * Dg.B ^ j * (t / Dg.B) = Dg.val x + Dg.B ^ j * Dg.val (v.take (m + 1))
     rw [Dg.val_set _ _ _ (by omega),Dg.take_succ,show j + m = m + j by omega,Int.pow_add,Int.pow_succ]
     rw [show m + j = j + m by omega]
     exact Dg.add_step ht hval
   ·have hmi : m = i:=by have : ¬ (m : Int) < (i : Int):=h4; omega
    subst hmi
    clear hP
    rw [List.take_of_length_le (Nat.le_of_eq hvl)] at hval
    have yb:=Dg.getD_bd hy (j + m)
    have iy : (irows .u32 y)[0 + (w64 ((j : Int) + ((irows .u32 v).length : Int))).toNat]? = some [.int .u32 (y.getD (j + m) 0)]:=irows_at (by rw [kI,Nat.zero_add]; exact getD_some (by simp; omega))
    obtain ⟨t,ht⟩ : ∃ t,t = y.getD (j + m) 0 + c:=⟨_,rfl⟩
    have et : u32 (y.getD (j + m) 0 + u32 c) = t % Dg.B:=by
     simp only [Dg.B] at *
     rw [u32_in (n:=c) (by omega),<- ht,u32_eq]
    obtain ⟨z,hz⟩ : ∃ z,z = y.set (j + m) (t % Dg.B):=⟨_,rfl⟩
    have zl : z.length = u.length:=by rw [hz]; simp [hyl]
    have zD : Dg.D z:=by rw [hz]; exact hy.set (by simp only [Dg.B]; omega) (by simp only [Dg.B]; omega)
    have zt : z.take j = u.take j:=by rw [hz]; exact (Dg.set_take_same y _ (by omega)).trans hyt
    have zz : ∀ k,j + m + 1 <= k -> z.getD k 0 = u.getD k 0:=fun k hk => by rw [hz]; exact ((Dg.getD_set_ne y _ (by omega)).trans (hyz k (by omega))).trans (xz k hk)
    have zd : Dg.val (z.drop (j + m + 1)) = 0:=by rw [Dg.drop_same zl zz]; exact hz0
    have zv : Dg.val z = Dg.val u - Dg.B ^ j * ((q - 1) * Dg.val v - Dg.B ^ (m + 1) * (1 - t / Dg.B)):=by
     have e2:=Int.emod_add_mul_ediv t Dg.B
     rw [hz,Dg.val_set _ _ _ (by omega),Int.pow_add,Int.pow_succ]
     rw [Int.pow_succ] at xv
     generalize t % Dg.B = r1 at *
     generalize t / Dg.B = r2 at *
     generalize Dg.B ^ j = Y at *
     generalize Dg.B ^ m = X at *
     subst ht
     grind
    have zk:=Dg.take_end2 zD zl (by omega) zt hV hqT zd (k:=t / Dg.B) (by simp only [Dg.B] at *; omega) zv
    have ok : Dg.TakeOk u z j (Dg.val (u.drop j) / Dg.val v * Dg.val v):=⟨zD,zl,zt,by rw [<- hqT]; exact zk⟩
    refine And.intro k0 (And.intro k1 (Exists.intro _ (And.intro iy ?_)))
    refine And.intro k0 (And.intro k1 (Exists.intro _ (And.intro iy ?_)))
    refine And.intro (Or.inr rfl) ?_
    have hk:=hK z ok
    have eq : IntKind.u32.wrap (IntKind.u64.wrap (q - 1)) = Dg.val (u.drop j) / Dg.val v:=by
     simp only [Dg.B] at *
     rw [<- hqT,show IntKind.u64.wrap (q - 1) = q - 1 from u64_in (by omega)]; exact u32_in (by omega)
    have e1 : upd 0 (some (Blk.arr (60,1) ((irows .u32 y).set (0 + (w64 ((j : Int) + ((irows .u32 v).length : Int))).toNat) [.int .u32 (u32 (y.getD (j + m) 0 + u32 c))]) true)) (fun k => look [(0,.arr (60,1) (irows .u32 y) true),(1,.arr (60,1) (irows .u32 o) true)] k) =
      (stOf [] [(0,.arr (60,1) (irows .u32 z) true),(1,.arr (60,1) (irows .u32 o) true)] 2).hp:=by
     rw [et,kI,Nat.zero_add,Int.toNat_natCast,irows_set,<- hz]
     exact upd_look
    rw [<- e1,<- eq] at hk
    exact hk
end Ab
end
section
open Go Go.Proofs
namespace Ab
set_option maxRecDepth 100000
set_option maxHeartbeats 1000000
theorem or_limb2 {x y : Int} (hx : 0 <= x∧x < Dg.B) (hy : 0 <= y∧y < Dg.B) : Go.bits .or .u64 (u64 x) (u64 (u64 y * 2 ^ 32)) = x + Dg.B * y:=by
 simp only [Dg.B] at *
 obtain ⟨a,rfl⟩:=Int.eq_ofNat_of_zero_le hx.1
 obtain ⟨b,rfl⟩:=Int.eq_ofNat_of_zero_le hy.1
 rw [u64_in (n:=(b : Int)) (by omega),u64_in (n:=(a : Int)) (by omega),u64_in (n:=(b : Int) * 2 ^ 32) (by omega)]
 have e : ((b : Int) * 2 ^ 32) = ((2 ^ 32 * b : Nat) : Int):=by omega
 rw [e,u64_or_nat _ _ (by omega) (by omega),Nat.or_comm,<- Nat.two_pow_add_eq_or_of_lt (by omega)]
 omega
theorem mask32 {x r : Nat} (hx : x < 4294967296) (hr : r < 32) : Go.bits .and .u32 (x : Int) (u32 (u32 (1 * 2 ^ r) - 1)) = ((x % 2 ^ r : Nat) : Int):=by
 have p : 2 ^ r <= 2 ^ 31:=Nat.pow_le_pow_right (by decide) (by omega)
 have p0 : 0 < 2 ^ r:=Nat.pow_pos (by decide)
 have e1 : (1 : Int) * 2 ^ r = ((2 ^ r : Nat) : Int):=by rw [pow_cast]; omega
 rw [e1,u32_in (n:=((2 ^ r : Nat) : Int)) (by omega),show ((2 ^ r : Nat) : Int) - 1 = ((2 ^ r - 1 : Nat) : Int) by omega,u32_in (by omega),u32_and_nat _ _ hx (by omega),Nat.and_two_pow_sub_one_eq_mod]
theorem limb_shr {x y rest : Int} {r : Nat} (hr : r < 32) : ((x + Dg.B * y) / 2 ^ r) % Dg.B = ((x + Dg.B * (y + Dg.B * rest)) / 2 ^ r) % Dg.B:=by
 have p : (0 : Int) < 2 ^ r:=Int.pow_pos (by decide)
 have e : Dg.B = (2 : Int) ^ r * 2 ^ (32 - r):=by rw [<- Int.pow_add,show r + (32 - r) = 32 by omega]; rfl
 have e2 : x + Dg.B * (y + Dg.B * rest) = (x + Dg.B * y) + 2 ^ r * (Dg.B * (2 ^ (32 - r) * rest)):=by
  have : Dg.B * (Dg.B * rest) = 2 ^ r * (Dg.B * (2 ^ (32 - r) * rest)):=by
   rw [show Dg.B * (Dg.B * rest) = Dg.B * ((2 ^ r * 2 ^ (32 - r)) * rest) by rw [<- e]]
   grind
  rw [Int.mul_add]; omega
 rw [e2,Int.add_mul_ediv_left _ _ (by omega),Int.add_mul_emod_self_left]
def shrV (l : List Int) (r k : Nat) : Int:=Dg.val (l.drop k) / 2 ^ r
theorem shrV_step {l : List Int} {r k : Nat} (hl : Dg.D l) (hk : k < l.length) (hr : r < 32) : shrV l r k = ((l.getD k 0 + Dg.B * l.getD (k + 1) 0) / 2 ^ r) % Dg.B + Dg.B * shrV l r (k + 1):=by
 have p : (0 : Int) < 2 ^ r:=Int.pow_pos (by decide)
 have e1 : Dg.val (l.drop k) = l.getD k 0 + Dg.B * Dg.val (l.drop (k + 1)):=Dg.drop_split hk
 have e2 : ∃ rest,Dg.val (l.drop (k + 1)) = l.getD (k + 1) 0 + Dg.B * rest:=by
  by_cases h : k + 1 < l.length
  ·exact ⟨_,Dg.drop_split h⟩
  ·refine ⟨0,?_⟩
   rw [List.drop_eq_nil_of_le (by omega),List.getD_eq_getElem?_getD,List.getElem?_eq_none (by omega)]
   rfl
 obtain ⟨rest,e2⟩:=e2
 rw [limb_shr (rest:=rest) hr,<- e2,<- e1]
 unfold shrV
 have h:=Int.emod_add_mul_ediv (Dg.val (l.drop k) / 2 ^ r) Dg.B
 have hx:=Dg.getD_bd hl k
 have e3 : Dg.val (l.drop k) / 2 ^ r / Dg.B = Dg.val (l.drop (k + 1)) / 2 ^ r:=by
  rw [Int.ediv_ediv_of_nonneg (Int.le_of_lt p),Int.mul_comm,<- Int.ediv_ediv_of_nonneg (by decide),e1,Int.add_mul_ediv_left _ _ (by decide),Int.ediv_eq_zero_of_lt hx.1 hx.2,Int.zero_add]
 rw [e3] at h
 exact h.symm
theorem iright_nil (gl : List (Nat × AV)) {l : List Int} (hl : Dg.D l) (hc : Dg.Canon l) (hla : l.length <= 1048576) {n : Nat} (hn : n <= 1048576) (h : l.length <= n / 32) :
  Spec Tryz.prog gl 169 [lim l,.int .i64 (n : Int)] (.tup [lim (Dg.mag (Dg.val l / 2 ^ n)),.bool (decide (Dg.val l % 2 ^ n ≠ 0))]):=by
 have la : ((irows .u32 l).length : Int) = l.length:=by rw [irows_len]
 have hW : w64 (Int.tdiv (n : Int) 32) = ((n / 32 : Nat) : Int):=by
  rcases tdiv32 n with h | h
  ·exact h
  ·omega
 have v0:=Dg.val_nonneg hl
 have v1 : Dg.val l < 2 ^ n:=by
  have a:=Dg.val_lt hl
  have b : Dg.B ^ l.length <= 2 ^ n:=by rw [pow_B]; exact two_pow_le (by omega)
  omega
 rw [Int.ediv_eq_zero_of_lt v0 v1,Int.emod_eq_of_lt v0 v1,Dg.mag_zero (Int.le_refl 0)]
 have e : decide (Dg.val l ≠ 0) = decide (((irows .u32 l).length : Int) > 0):=by
  rw [la]
  refine decide_eq_decide.2 ⟨fun g => ?_,fun g => ?_⟩
  ·cases l with
   | nil => exact absurd rfl g
   | cons x l => simp
  ·have : l ≠ []:=fun e => by subst e; simp at g
   have:=Dg.val_pos hl hc this
   omega
 rw [e]
 refine spec_fn T_ok mixed_ok 0 Tryz.func169 fn_ok169 (by kernel_rfl) ?_
 refine And.intro (by decide) ?_
 refine br (fun _ => ?_) (fun g => ?_)
 ·exact And.intro (Or.inr rfl) rfl
 ·have g' : ¬ w64 (Int.tdiv (n : Int) 32) ≥ ((irows .u32 l).length : Int):=g
  omega
theorem lost_val {tk X rest : Int} {x r : Nat} (hr : r < 32) (h1 : 0 <= tk∧tk < X) : (tk + X * ((x : Int) + Dg.B * rest)) % (X * 2 ^ r) = tk + X * ((x % 2 ^ r : Nat) : Int):=by
 have p : (0 : Int) < 2 ^ r:=Int.pow_pos (by decide)
 have e : Dg.B = (2 : Int) ^ r * 2 ^ (32 - r):=by rw [<- Int.pow_add,show r + (32 - r) = 32 by omega]; rfl
 have hx:=Nat.mod_add_div x (2 ^ r)
 have hx' : (x : Int) = ((x % 2 ^ r : Nat) : Int) + 2 ^ r * ((x / 2 ^ r : Nat) : Int):=by
  have : ((x % 2 ^ r + 2 ^ r * (x / 2 ^ r) : Nat) : Int) = (x : Int):=by rw [hx]
  rw [Int.natCast_add,Int.natCast_mul,pow_cast] at this
  exact this.symm
 have hm : ((x % 2 ^ r : Nat) : Int) + 1 <= 2 ^ r:=by
  have:=Nat.mod_lt x (Nat.pow_pos (n:=r) (show 0 < 2 by decide))
  rw [<- pow_cast]
  omega
 have hm0 : (0 : Int) <= ((x % 2 ^ r : Nat) : Int):=Int.natCast_nonneg _
 generalize ((x % 2 ^ r : Nat) : Int) = m at *
 generalize ((x / 2 ^ r : Nat) : Int) = d at *
 have e3 : tk + X * ((x : Int) + Dg.B * rest) = (tk + X * m) + X * 2 ^ r * (d + 2 ^ (32 - r) * rest):=by
  rw [hx',e]; grind
 rw [e3,Int.add_mul_emod_self_left]
 refine Int.emod_eq_of_lt ?_ ?_
 ·have:=Int.mul_nonneg (show 0 <= X by omega) hm0
  omega
 ·have : X * (m + 1) <= X * 2 ^ r:=Int.mul_le_mul_of_nonneg_left hm (by omega)
  rw [Int.mul_add,Int.mul_one] at this
  omega
theorem iright_spec (gl : List (Nat × AV)) {l : List Int} (hl : Dg.D l) (hc : Dg.Canon l) (hla : l.length <= 1048576) {n : Nat} (hn : n <= 1048576) :
  Spec Tryz.prog gl 169 [lim l,.int .i64 (n : Int)] (.tup [lim (Dg.mag (Dg.val l / 2 ^ n)),.bool (decide (Dg.val l % 2 ^ n ≠ 0))]):=by
 by_cases hlen : l.length <= n / 32
 ·exact iright_nil gl hl hc hla hn hlen
 have la : ((irows .u32 l).length : Int) = l.length:=by rw [irows_len]
 have hW : w64 (Int.tdiv (n : Int) 32) = ((n / 32 : Nat) : Int):=by
  rcases tdiv32 n with h | h
  ·exact h
  ·omega
 have hR : Int.tmod (n : Int) 32 = ((n % 32 : Nat) : Int):=by rw [Int.ofNat_tmod]; rfl
 obtain ⟨w,hw⟩ : ∃ w,w = n / 32:=⟨_,rfl⟩
 obtain ⟨r,hr⟩ : ∃ r,r = n % 32:=⟨_,rfl⟩
 have hnw : n = 32 * w + r:=by omega
 have hr32 : r < 32:=by omega
 rw [<- hw] at hW hlen
 rw [<- hr] at hR
 have p : (0 : Int) < 2 ^ r:=Int.pow_pos (by decide)
 have e2n : (2 : Int) ^ n = Dg.B ^ w * 2 ^ r:=by rw [hnw,Int.pow_add,Int.pow_mul]; rfl
 have hsplit:=Dg.take_drop_val l w (by omega)
 have htk:=Dg.val_take_lt hl w
 have pw:=Dg.pow_pos w
 have hdiv : Dg.val l / 2 ^ n = shrV l r w:=by
  unfold shrV
  rw [e2n,<- Int.ediv_ediv_of_nonneg (Int.le_of_lt pw),hsplit,Int.add_mul_ediv_left _ _ (by omega),Int.ediv_eq_zero_of_lt htk.1 htk.2,Int.zero_add]
 rw [hdiv]
 have lx:=Dg.getD_bd hl w
 obtain ⟨x,hx⟩:=Int.eq_ofNat_of_zero_le lx.1
 have hx32 : x < 4294967296:=by simp only [Dg.B] at lx; omega
 have hlost : decide (Dg.val l % 2 ^ n ≠ 0) = (decide (((irows .u32 (Dg.trim (l.take w))).length : Int) > 0) || ((x % 2 ^ r : Nat) : Int) != 0):=by
  have hv : Dg.val l % 2 ^ n = Dg.val (l.take w) + Dg.B ^ w * ((x % 2 ^ r : Nat) : Int):=by
   rw [e2n,hsplit,Dg.drop_split (by omega),hx]
   have hh:=htk
   rw [<- hsplit] at *
   exact lost_val hr32 hh
  have htrim : (((irows .u32 (Dg.trim (l.take w))).length : Int) > 0) ↔ Dg.val (l.take w) ≠ 0:=by
   rw [irows_len,Dg.trim_mag (hl.take w)]
   have:=mag_nil htk.1
   constructor
   ·intro g e
    rw [this.2 e] at g
    simp at g
   ·intro g
    have : Dg.mag (Dg.val (l.take w)) ≠ []:=fun e => g (this.1 e)
    have:=List.length_pos_iff.2 this
    omega
  rw [hv,Bool.eq_iff_iff]
  simp only [ne_eq,decide_eq_true_eq,Bool.or_eq_true,bne_iff_ne]
  rw [htrim]
  have m0 : (0 : Int) <= ((x % 2 ^ r : Nat) : Int):=Int.natCast_nonneg _
  generalize ((x % 2 ^ r : Nat) : Int) = m at *
  have:=Int.mul_nonneg (Int.le_of_lt pw) m0
  constructor
  ·intro g
   by_cases hm : m = 0
   ·left
    intro e
    exact g (by rw [e,hm]; simp)
   ·exact .inr hm
  ·rintro (g | g) e
   ·omega
   ·have : Dg.B ^ w * 1 <= Dg.B ^ w * m:=Int.mul_le_mul_of_nonneg_left (by omega) (Int.le_of_lt pw)
    omega
 rw [hlost]
 have hts:=trimmed_spec gl (l.take w) (by simp; omega)
 have e5 : ((irows .u32 l).take (w64 (Int.tdiv (n : Int) 32)).toNat).drop 0 = irows .u32 (l.take w):=by
  rw [List.drop_zero,hW,Int.toNat_natCast,irows_take]
 rw [show lim (l.take w) = AV.sl (irows .u32 (l.take w)) from rfl,<- e5] at hts
 have ix : (irows .u32 l)[(w64 (Int.tdiv (n : Int) 32)).toNat]? = some [.int .u32 (l.getD w 0)]:=irows_at (by rw [hW,Int.toNat_natCast]; exact getD_some (by omega))
 have iW : 0 <= w64 (Int.tdiv (n : Int) 32):=by omega
 have hand : Go.bits .and .u32 (l.getD w 0) (u32 (u32 (1 * 2 ^ (min (Int.tmod (n : Int) 32).toNat IntKind.u32.bits)) - 1)) = ((x % 2 ^ r : Nat) : Int):=by
  rw [hR,Int.toNat_natCast,Nat.min_eq_left (show r <= IntKind.u32.bits from Nat.le_of_lt hr32),hx]
  exact mask32 hx32 hr32
 have hge : ¬ w64 (Int.tdiv (n : Int) 32) ≥ ((irows .u32 l).length : Int):=by omega
 have hle : w64 (Int.tdiv (n : Int) 32) <= ((irows .u32 l).length : Int):=by omega
 have hM : w64 (((irows .u32 l).length : Int) - w64 (Int.tdiv (n : Int) 32)) = ((l.length - w : Nat) : Int):=by rw [la,hW,w64_eq (by omega)]; omega
 by_cases hg : ((irows .u32 (Dg.trim (l.take w))).length : Int) > 0
 ·rw [decide_eq_true hg,Bool.true_or]
  clear hlost hand
  refine spec_fn T_ok mixed_ok 0 Tryz.func169 fn_ok169 (by kernel_rfl) ?_
  refine And.intro (by decide) ?_
  refine br (fun g => absurd g hge) (fun _ => ?_)
  refine And.intro (by kernel_rfl) ?_
  repeat (first | refine gT ?_ | refine gF ?_ | refine brT ?_ | refine brF ?_ | refine And.intro rfl ?_)
  refine And.intro iW (And.intro hle (And.intro (irows_ok _ _) ?_))
  repeat (first | refine gT ?_ | refine gF ?_ | refine brT ?_ | refine brF ?_ | refine And.intro rfl ?_)
  first | refine Exists.intro _ (And.intro (hts) ?_) | refine Hn_by (Exists.intro _ (And.intro (hts) ?_))
  repeat (first | refine gT ?_ | refine gF ?_ | refine brT ?_ | refine brF ?_ | refine And.intro rfl ?_)
  refine gr (fun _ => ?_) (fun g => absurd hg g)
  repeat (first | refine gT ?_ | refine gF ?_ | refine brT ?_ | refine brF ?_ | refine And.intro rfl ?_)
  refine And.intro (show (0 : Int) <= w64 (((irows .u32 l).length : Int) - w64 (Int.tdiv (n : Int) 32)) by rw [hM]; omega) (And.intro (Int.le_refl _) (And.intro (show w64 (((irows .u32 l).length : Int) - w64 (Int.tdiv (n : Int) 32)) * 4 <= 140737488355328 by rw [hM]; omega) (And.intro (show w64 (((irows .u32 l).length : Int) - w64 (Int.tdiv (n : Int) 32)) <= maxLen by rw [hM]; simp [maxLen]; omega) ?_)))
  refine aw_loop (fun q : Nat × List Int => stOf [(0,lim l),(1,.int .i64 (n : Int)),(6,.int .i64 (w : Int)),(7,.bool true),(8,.ms 0 0 (l.length - w)),(44,.int .i64 ((l.length - w : Nat) : Int)),(45,.int .i64 (q.1 : Int))] [(0,.arr (60,1) (irows .u32 q.2) true)] 1)
   (fun q => q.1 <= l.length - w∧Dg.D q.2∧q.2.length = l.length - w∧Dg.val (q.2.take q.1) + Dg.B ^ q.1 * shrV l r (w + q.1) = shrV l r w) (fun q => l.length - w - q.1) (0,List.replicate (l.length - w) 0)
   ⟨Nat.zero_le _,Dg.D.rep _,by simp,by simp [Dg.val]⟩
   (le_by ⟨rfl,rfl,int_eq hW,rfl,(show AV.ms 0 0 (w64 (((irows .u32 l).length : Int) - w64 (Int.tdiv (n : Int) 32))).toNat = _ by rw [hM,Int.toNat_natCast]),int_eq (show (((w64 (((irows .u32 l).length : Int) - w64 (Int.tdiv (n : Int) 32))).toNat : Nat) : Int) = _ by rw [hM,Int.toNat_natCast]),rfl,trivial⟩ ⟨(show some (Blk.arr (60,1) (List.replicate (w64 (((irows .u32 l).length : Int) - w64 (Int.tdiv (n : Int) 32))).toNat [AV.int .u32 0]) true) = _ by rw [hM,Int.toNat_natCast,irows_rep]),trivial⟩ (Nat.le_refl _)) ?_
  rintro ⟨i,o⟩ ⟨hi,ho,hol,hv⟩ P hP
  simp only at hi ho hol hv
  refine br (fun h2 => ?_) (fun h2 => ?_)
  ·have hin : i < l.length - w:=by have : (i : Int) < ((l.length - w : Nat) : Int):=h2; omega
   have lk:=Dg.getD_bd hl (w + i)
   have lk1:=Dg.getD_bd hl (w + i + 1)
   have kI : w64 ((i : Int) + (w : Int)) = ((w + i : Nat) : Int):=by rw [w64_eq (by omega)]; omega
   have kI1 : w64 (w64 ((i : Int) + (w : Int)) + 1) = ((w + i + 1 : Nat) : Int):=by rw [kI,w64_eq (by omega)]; omega
   have i0 : 0 <= w64 ((i : Int) + (w : Int)):=by omega
   have i1 : 0 <= w64 (w64 ((i : Int) + (w : Int)) + 1):=by omega
   have il : (irows .u32 l)[(w64 ((i : Int) + (w : Int))).toNat]? = some [.int .u32 (l.getD (w + i) 0)]:=irows_at (by rw [kI,Int.toNat_natCast]; exact getD_some (by omega))
   have io : (irows .u32 o)[0 + ((i : Int)).toNat]? = some [.int .u32 (o.getD i 0)]:=irows_at (by rw [Nat.zero_add]; exact getD_some (by simp; omega))
   have hw2 : w64 ((i : Int) + 1) = ((i + 1 : Nat) : Int):=by rw [w64_eq (by omega)]; omega
   have hstep:=shrV_step hl (k:=w + i) (by omega) hr32
   have R0 : 0 <= Int.tmod (n : Int) 32:=by rw [hR]; omega
   have T0 : 0 <= l.getD (w + i) 0 + Dg.B * l.getD (w + i + 1) 0:=by simp only [Dg.B] at *; omega
   have eL : ∀ {X : Int},X = l.getD (w + i) 0 + Dg.B * l.getD (w + i + 1) 0 -> u32 (Int.fdiv X (2 ^ (min (Int.tmod (n : Int) 32).toNat IntKind.u64.bits))) = ((l.getD (w + i) 0 + Dg.B * l.getD (w + i + 1) 0) / 2 ^ r) % Dg.B:=by
      intro X hX
      rw [hX,hR,Int.toNat_natCast,Nat.min_eq_left (show r <= IntKind.u64.bits from Nat.le_of_lt (Nat.lt_of_lt_of_le hr32 (by decide))),Int.fdiv_eq_ediv_of_nonneg _ (Int.le_of_lt p),u32_eq]
   refine And.intro i0 (Exists.intro _ (And.intro il ?_))
   refine br (fun h3 => ?_) (fun h3 => ?_)
   ·have h3' : w + i + 1 < l.length:=by
     have : w64 (w64 ((i : Int) + (w : Int)) + 1) < ((irows .u32 l).length : Int):=h3
     omega
    have il1 : (irows .u32 l)[(w64 (w64 ((i : Int) + (w : Int)) + 1)).toNat]? = some [.int .u32 (l.getD (w + i + 1) 0)]:=irows_at (by rw [kI1,Int.toNat_natCast]; exact getD_some h3')
    have eT:=or_limb2 lk lk1
    have e3:=eL eT
    refine And.intro i1 (Exists.intro _ (And.intro il1 ?_))
    refine And.intro (by decide) ?_
    refine And.intro (by decide) ?_
    refine And.intro R0 ?_
    refine And.intro (show (0 : Int) <= (i : Int) by omega) (And.intro (show (i : Int) < ((l.length - w : Nat) : Int) by omega) (Exists.intro _ (And.intro io ?_)))
    refine hP (i + 1,o.set i (((l.getD (w + i) 0 + Dg.B * l.getD (w + i + 1) 0) / 2 ^ r) % Dg.B)) _ (le_by ⟨rfl,rfl,rfl,rfl,rfl,rfl,int_eq hw2,trivial⟩ ⟨(show some (Blk.arr (60,1) ((irows .u32 o).set (0 + ((i : Int)).toNat) [.int .u32 (u32 (Int.fdiv (Go.bits .or .u64 (u64 (l.getD (w + i) 0)) (u64 (u64 (l.getD (w + i + 1) 0) * 2 ^ 32))) (2 ^ (min (Int.tmod (n : Int) 32).toNat IntKind.u64.bits))))]) true) = _ by rw [e3,Nat.zero_add,Int.toNat_natCast,irows_set]),trivial⟩ (Nat.le_refl _))
     ⟨by show i + 1 <= l.length - w; omega,ho.set (Int.emod_nonneg _ (by decide)) (Int.emod_lt_of_pos _ (by decide)),by simp [hol],?_⟩ (by show l.length - w - (i + 1) < l.length - w - i; omega)
    show Dg.val ((o.set i _).take (i + 1)) + Dg.B ^ (i + 1) * shrV l r (w + (i + 1)) = shrV l r w
    rw [Dg.set_take _ _ _ (by omega),<- hv,hstep,Int.pow_succ,show w + (i + 1) = w + i + 1 by omega]
    grind
   ·have h3' : ¬ w + i + 1 < l.length:=by
     have : ¬ w64 (w64 ((i : Int) + (w : Int)) + 1) < ((irows .u32 l).length : Int):=h3
     omega
    have z : l.getD (w + i + 1) 0 = 0:=by rw [List.getD_eq_getElem?_getD,List.getElem?_eq_none (by omega)]; rfl
    have eT : u64 (l.getD (w + i) 0) = l.getD (w + i) 0 + Dg.B * l.getD (w + i + 1) 0:=by
     rw [z,u64_in (by simp only [Dg.B] at lk; omega)]; simp
    have e3:=eL eT
    refine And.intro (by decide) ?_
    refine And.intro R0 ?_
    refine And.intro (show (0 : Int) <= (i : Int) by omega) (And.intro (show (i : Int) < ((l.length - w : Nat) : Int) by omega) (Exists.intro _ (And.intro io ?_)))
    refine hP (i + 1,o.set i (((l.getD (w + i) 0 + Dg.B * l.getD (w + i + 1) 0) / 2 ^ r) % Dg.B)) _ (le_by ⟨rfl,rfl,rfl,rfl,rfl,rfl,int_eq hw2,trivial⟩ ⟨(show some (Blk.arr (60,1) ((irows .u32 o).set (0 + ((i : Int)).toNat) [.int .u32 (u32 (Int.fdiv (u64 (l.getD (w + i) 0)) (2 ^ (min (Int.tmod (n : Int) 32).toNat IntKind.u64.bits))))]) true) = _ by rw [e3,Nat.zero_add,Int.toNat_natCast,irows_set]),trivial⟩ (Nat.le_refl _))
     ⟨by show i + 1 <= l.length - w; omega,ho.set (Int.emod_nonneg _ (by decide)) (Int.emod_lt_of_pos _ (by decide)),by simp [hol],?_⟩ (by show l.length - w - (i + 1) < l.length - w - i; omega)
    show Dg.val ((o.set i _).take (i + 1)) + Dg.B ^ (i + 1) * shrV l r (w + (i + 1)) = shrV l r w
    rw [Dg.set_take _ _ _ (by omega),<- hv,hstep,Int.pow_succ,show w + (i + 1) = w + i + 1 by omega]
    grind
  ·have hin : i = l.length - w:=by have : ¬ (i : Int) < ((l.length - w : Nat) : Int):=h2; omega
   subst hin
   clear hP
   rw [List.take_of_length_le (Nat.le_of_eq hol)] at hv
   have z : shrV l r (w + (l.length - w)) = 0:=by
      unfold shrV
      rw [List.drop_eq_nil_of_le (by omega)]
      simp [Dg.val]
   rw [z,Int.mul_zero,Int.add_zero] at hv
   rw [<- hv]
   have hts2:=trimmed_spec gl o (by omega)
   rw [Dg.trim_mag ho] at hts2
   have e6 : ((irows .u32 o).drop 0).take (l.length - w) = irows .u32 o:=by
      rw [List.drop_zero,List.take_of_length_le (by rw [irows_len]; omega)]
   rw [show lim o = AV.sl (irows .u32 o) from rfl,<- e6] at hts2
   refine And.intro (show 0 + (l.length - w) <= (irows .u32 o).length by rw [irows_len]; omega) ?_
   refine Exists.intro _ (And.intro hts2 ?_)
   exact And.intro (Or.inr rfl) rfl
 ·rw [decide_eq_false hg,Bool.false_or]
  clear hlost
  refine spec_fn T_ok mixed_ok 0 Tryz.func169 fn_ok169 (by kernel_rfl) ?_
  refine And.intro (by decide) ?_
  refine br (fun g => absurd g hge) (fun _ => ?_)
  refine And.intro (by kernel_rfl) ?_
  repeat (first | refine gT ?_ | refine gF ?_ | refine brT ?_ | refine brF ?_ | refine And.intro rfl ?_)
  refine And.intro iW (And.intro hle (And.intro (irows_ok _ _) ?_))
  repeat (first | refine gT ?_ | refine gF ?_ | refine brT ?_ | refine brF ?_ | refine And.intro rfl ?_)
  first | refine Exists.intro _ (And.intro (hts) ?_) | refine Hn_by (Exists.intro _ (And.intro (hts) ?_))
  repeat (first | refine gT ?_ | refine gF ?_ | refine brT ?_ | refine brF ?_ | refine And.intro rfl ?_)
  refine gr (fun g => absurd g hg) (fun _ => ?_)
  repeat (first | refine gT ?_ | refine gF ?_ | refine brT ?_ | refine brF ?_ | refine And.intro rfl ?_)
  refine And.intro iW (Exists.intro _ (And.intro ix ?_))
  repeat (first | refine gT ?_ | refine gF ?_ | refine brT ?_ | refine brF ?_ | refine And.intro rfl ?_)
  refine And.intro (by decide) ?_
  repeat (first | refine gT ?_ | refine gF ?_ | refine brT ?_ | refine brF ?_ | refine And.intro rfl ?_)
  refine And.intro (show 0 <= Int.tmod (n : Int) 32 by rw [hR]; omega) ?_
  repeat (first | refine gT ?_ | refine gF ?_ | refine brT ?_ | refine brF ?_ | refine And.intro rfl ?_)
  refine And.intro (show (0 : Int) <= w64 (((irows .u32 l).length : Int) - w64 (Int.tdiv (n : Int) 32)) by rw [hM]; omega) (And.intro (Int.le_refl _) (And.intro (show w64 (((irows .u32 l).length : Int) - w64 (Int.tdiv (n : Int) 32)) * 4 <= 140737488355328 by rw [hM]; omega) (And.intro (show w64 (((irows .u32 l).length : Int) - w64 (Int.tdiv (n : Int) 32)) <= maxLen by rw [hM]; simp [maxLen]; omega) ?_)))
  refine aw_loop (fun q : Nat × List Int => stOf [(0,lim l),(1,.int .i64 (n : Int)),(6,.int .i64 (w : Int)),(7,.bool (((x % 2 ^ r : Nat) : Int) != 0)),(8,.ms 0 0 (l.length - w)),(44,.int .i64 ((l.length - w : Nat) : Int)),(45,.int .i64 (q.1 : Int))] [(0,.arr (60,1) (irows .u32 q.2) true)] 1)
   (fun q => q.1 <= l.length - w∧Dg.D q.2∧q.2.length = l.length - w∧Dg.val (q.2.take q.1) + Dg.B ^ q.1 * shrV l r (w + q.1) = shrV l r w) (fun q => l.length - w - q.1) (0,List.replicate (l.length - w) 0)
   ⟨Nat.zero_le _,Dg.D.rep _,by simp,by simp [Dg.val]⟩
   (le_by ⟨rfl,rfl,int_eq hW,(show AV.bool (Go.bits .and .u32 (l.getD w 0) (u32 (u32 (1 * 2 ^ (min (Int.tmod (n : Int) 32).toNat IntKind.u32.bits)) - 1)) != 0) = _ by rw [hand]),(show AV.ms 0 0 (w64 (((irows .u32 l).length : Int) - w64 (Int.tdiv (n : Int) 32))).toNat = _ by rw [hM,Int.toNat_natCast]),int_eq (show (((w64 (((irows .u32 l).length : Int) - w64 (Int.tdiv (n : Int) 32))).toNat : Nat) : Int) = _ by rw [hM,Int.toNat_natCast]),rfl,trivial⟩ ⟨(show some (Blk.arr (60,1) (List.replicate (w64 (((irows .u32 l).length : Int) - w64 (Int.tdiv (n : Int) 32))).toNat [AV.int .u32 0]) true) = _ by rw [hM,Int.toNat_natCast,irows_rep]),trivial⟩ (Nat.le_refl _)) ?_
  rintro ⟨i,o⟩ ⟨hi,ho,hol,hv⟩ P hP
  simp only at hi ho hol hv
  refine br (fun h2 => ?_) (fun h2 => ?_)
  ·have hin : i < l.length - w:=by have : (i : Int) < ((l.length - w : Nat) : Int):=h2; omega
   have lk:=Dg.getD_bd hl (w + i)
   have lk1:=Dg.getD_bd hl (w + i + 1)
   have kI : w64 ((i : Int) + (w : Int)) = ((w + i : Nat) : Int):=by rw [w64_eq (by omega)]; omega
   have kI1 : w64 (w64 ((i : Int) + (w : Int)) + 1) = ((w + i + 1 : Nat) : Int):=by rw [kI,w64_eq (by omega)]; omega
   have i0 : 0 <= w64 ((i : Int) + (w : Int)):=by omega
   have i1 : 0 <= w64 (w64 ((i : Int) + (w : Int)) + 1):=by omega
   have il : (irows .u32 l)[(w64 ((i : Int) + (w : Int))).toNat]? = some [.int .u32 (l.getD (w + i) 0)]:=irows_at (by rw [kI,Int.toNat_natCast]; exact getD_some (by omega))
   have io : (irows .u32 o)[0 + ((i : Int)).toNat]? = some [.int .u32 (o.getD i 0)]:=irows_at (by rw [Nat.zero_add]; exact getD_some (by simp; omega))
   have hw2 : w64 ((i : Int) + 1) = ((i + 1 : Nat) : Int):=by rw [w64_eq (by omega)]; omega
   have hstep:=shrV_step hl (k:=w + i) (by omega) hr32
   have R0 : 0 <= Int.tmod (n : Int) 32:=by rw [hR]; omega
   have T0 : 0 <= l.getD (w + i) 0 + Dg.B * l.getD (w + i + 1) 0:=by simp only [Dg.B] at *; omega
   have eL : ∀ {X : Int},X = l.getD (w + i) 0 + Dg.B * l.getD (w + i + 1) 0 -> u32 (Int.fdiv X (2 ^ (min (Int.tmod (n : Int) 32).toNat IntKind.u64.bits))) = ((l.getD (w + i) 0 + Dg.B * l.getD (w + i + 1) 0) / 2 ^ r) % Dg.B:=by
      intro X hX
      rw [hX,hR,Int.toNat_natCast,Nat.min_eq_left (show r <= IntKind.u64.bits from Nat.le_of_lt (Nat.lt_of_lt_of_le hr32 (by decide))),Int.fdiv_eq_ediv_of_nonneg _ (Int.le_of_lt p),u32_eq]
   refine And.intro i0 (Exists.intro _ (And.intro il ?_))
   refine br (fun h3 => ?_) (fun h3 => ?_)
   ·have h3' : w + i + 1 < l.length:=by
     have : w64 (w64 ((i : Int) + (w : Int)) + 1) < ((irows .u32 l).length : Int):=h3
     omega
    have il1 : (irows .u32 l)[(w64 (w64 ((i : Int) + (w : Int)) + 1)).toNat]? = some [.int .u32 (l.getD (w + i + 1) 0)]:=irows_at (by rw [kI1,Int.toNat_natCast]; exact getD_some h3')
    have eT:=or_limb2 lk lk1
    have e3:=eL eT
    refine And.intro i1 (Exists.intro _ (And.intro il1 ?_))
    refine And.intro (by decide) ?_
    refine And.intro (by decide) ?_
    refine And.intro R0 ?_
    refine And.intro (show (0 : Int) <= (i : Int) by omega) (And.intro (show (i : Int) < ((l.length - w : Nat) : Int) by omega) (Exists.intro _ (And.intro io ?_)))
    refine hP (i + 1,o.set i (((l.getD (w + i) 0 + Dg.B * l.getD (w + i + 1) 0) / 2 ^ r) % Dg.B)) _ (le_by ⟨rfl,rfl,rfl,rfl,rfl,rfl,int_eq hw2,trivial⟩ ⟨(show some (Blk.arr (60,1) ((irows .u32 o).set (0 + ((i : Int)).toNat) [.int .u32 (u32 (Int.fdiv (Go.bits .or .u64 (u64 (l.getD (w + i) 0)) (u64 (u64 (l.getD (w + i + 1) 0) * 2 ^ 32))) (2 ^ (min (Int.tmod (n : Int) 32).toNat IntKind.u64.bits))))]) true) = _ by rw [e3,Nat.zero_add,Int.toNat_natCast,irows_set]),trivial⟩ (Nat.le_refl _))
     ⟨by show i + 1 <= l.length - w; omega,ho.set (Int.emod_nonneg _ (by decide)) (Int.emod_lt_of_pos _ (by decide)),by simp [hol],?_⟩ (by show l.length - w - (i + 1) < l.length - w - i; omega)
    show Dg.val ((o.set i _).take (i + 1)) + Dg.B ^ (i + 1) * shrV l r (w + (i + 1)) = shrV l r w
    rw [Dg.set_take _ _ _ (by omega),<- hv,hstep,Int.pow_succ,show w + (i + 1) = w + i + 1 by omega]
    grind
   ·have h3' : ¬ w + i + 1 < l.length:=by
     have : ¬ w64 (w64 ((i : Int) + (w : Int)) + 1) < ((irows .u32 l).length : Int):=h3
     omega
    have z : l.getD (w + i + 1) 0 = 0:=by rw [List.getD_eq_getElem?_getD,List.getElem?_eq_none (by omega)]; rfl
    have eT : u64 (l.getD (w + i) 0) = l.getD (w + i) 0 + Dg.B * l.getD (w + i + 1) 0:=by
     rw [z,u64_in (by simp only [Dg.B] at lk; omega)]; simp
    have e3:=eL eT
    refine And.intro (by decide) ?_
    refine And.intro R0 ?_
    refine And.intro (show (0 : Int) <= (i : Int) by omega) (And.intro (show (i : Int) < ((l.length - w : Nat) : Int) by omega) (Exists.intro _ (And.intro io ?_)))
    refine hP (i + 1,o.set i (((l.getD (w + i) 0 + Dg.B * l.getD (w + i + 1) 0) / 2 ^ r) % Dg.B)) _ (le_by ⟨rfl,rfl,rfl,rfl,rfl,rfl,int_eq hw2,trivial⟩ ⟨(show some (Blk.arr (60,1) ((irows .u32 o).set (0 + ((i : Int)).toNat) [.int .u32 (u32 (Int.fdiv (u64 (l.getD (w + i) 0)) (2 ^ (min (Int.tmod (n : Int) 32).toNat IntKind.u64.bits))))]) true) = _ by rw [e3,Nat.zero_add,Int.toNat_natCast,irows_set]),trivial⟩ (Nat.le_refl _))
     ⟨by show i + 1 <= l.length - w; omega,ho.set (Int.emod_nonneg _ (by decide)) (Int.emod_lt_of_pos _ (by decide)),by simp [hol],?_⟩ (by show l.length - w - (i + 1) < l.length - w - i; omega)
    show Dg.val ((o.set i _).take (i + 1)) + Dg.B ^ (i + 1) * shrV l r (w + (i + 1)) = shrV l r w
    rw [Dg.set_take _ _ _ (by omega),<- hv,hstep,Int.pow_succ,show w + (i + 1) = w + i + 1 by omega]
    grind
  ·have hin : i = l.length - w:=by have : ¬ (i : Int) < ((l.length - w : Nat) : Int):=h2; omega
   subst hin
   clear hP
   rw [List.take_of_length_le (Nat.le_of_eq hol)] at hv
   have z : shrV l r (w + (l.length - w)) = 0:=by
      unfold shrV
      rw [List.drop_eq_nil_of_le (by omega)]
      simp [Dg.val]
   rw [z,Int.mul_zero,Int.add_zero] at hv
   rw [<- hv]
   have hts2:=trimmed_spec gl o (by omega)
   rw [Dg.trim_mag ho] at hts2
   have e6 : ((irows .u32 o).drop 0).take (l.length - w) = irows .u32 o:=by
      rw [List.drop_zero,List.take_of_length_le (by rw [irows_len]; omega)]
   rw [show lim o = AV.sl (irows .u32 o) from rfl,<- e6] at hts2
   refine And.intro (show 0 + (l.length - w) <= (irows .u32 o).length by rw [irows_len]; omega) ?_
   refine Exists.intro _ (And.intro hts2 ?_)
   exact And.intro (Or.inr rfl) rfl
end Ab
end
section
open Go Go.Proofs
namespace Ab
set_option maxRecDepth 100000
set_option maxHeartbeats 1000000
theorem tabL {b : ByteArray} (hb : ∀ (i : Nat) (h : i < b.size),(b[i]'h).toNat = bitLen i) (hs : b.size = 256) {i : Nat} (h : i < 256) : b[i]? = some (UInt8.ofNat (bitLen i)):=by
 rw [getElem?_pos b i (by omega)]
 congr 1
 apply UInt8.toNat_inj.1
 rw [hb,UInt8.toNat_ofNat']
 have:=bitLen_le8 i h
 omega
theorem shr_nat32 {X : Int} {x : Nat} (s : Nat) (hX : X = (x : Int)) (hs : s <= 32) : Int.fdiv X (2 ^ (min (((s : Nat) : Int).toNat) IntKind.u32.bits)) = ((x / 2 ^ s : Nat) : Int):=by
 rw [hX,show (((s : Nat) : Int).toNat) = s from rfl,Nat.min_eq_left (show s <= IntKind.u32.bits from hs)]
 have e : (2 : Int) ^ s = ((2 ^ s : Nat) : Int):=by simp
 rw [e,Int.fdiv_eq_ediv_of_nonneg _ (Int.natCast_nonneg _)]
 simp
theorem lenL_end {X : Int} {x : Nat} {n N : Nat} (hX : X = (x : Int)) (h : x < 256) (hN : N = n + bitLen x) (hn : n <= 56) : (IntKind.u8.wrap X).toNat = x∧0 <= IntKind.u8.wrap X∧IntKind.i64.wrap ((n : Int) + IntKind.i64.wrap (((UInt8.ofNat (bitLen x)).toNat : Nat) : Int)) = (N : Int):=by
 have e : IntKind.u8.wrap X = (x : Int):=by rw [hX]; simp [IntKind.wrap,IntKind.bits,IntKind.signed]; omega
 have hb:=bitLen_le8 x h
 refine ⟨by rw [e]; rfl,by rw [e]; omega,?_⟩
 have e2 : (UInt8.ofNat (bitLen x)).toNat = bitLen x:=by rw [UInt8.toNat_ofNat']; omega
 rw [e2,show IntKind.i64.wrap ((bitLen x : Nat) : Int) = ((bitLen x : Nat) : Int) from w64_eq (by omega),show IntKind.i64.wrap ((n : Int) + ((bitLen x : Nat) : Int)) = _ from w64_eq (by omega),hN]
 omega
theorem len32_spec (gl : List (Nat × AV)) (y : Nat) (hy : y < 2 ^ 32) : Spec Tryz.prog gl 182 [.int .u32 (y : Int)] (.int .i64 (bitLen y : Int)):=by
 have hL : bitLen y = 0 + bitLen y:=(Nat.zero_add _).symm
 refine spec_fn T_ok mixed_ok 0 Tryz.func182 fn_ok182 (by kernel_rfl) ?_
 have hE : (y : Int) = ((y : Nat) : Int):=rfl
 refine br (fun h2 => ?_) (fun h2 => ?_)
 ·have h2' : (y : Int) ≥ 65536:=h2
  refine And.intro (by decide) ?_
  have E16:=shr_nat32 16 hE (by decide)
  refine br (fun h3 => ?_) (fun h3 => ?_)
  ·have h3' : ((y / 2 ^ 16 : Nat) : Int) ≥ 256:=by rw [<- E16]; exact h3
   refine And.intro (by decide) ?_
   have E8:=shr_nat32 8 E16 (by decide)
   have le:=lenL_end (n:=0 + 16 + 8) E8 (show y / 2 ^ 16 / 2 ^ 8 < 256 by omega) (show bitLen y = 0 + 16 + 8 + bitLen (y / 2 ^ 16 / 2 ^ 8) by
       have a:=bitLen_shift y 16 (by omega)
       have b:=bitLen_shift (y / 2 ^ 16) 8 (by omega)
       omega) (by decide)
   refine And.intro le.2.1 (Exists.intro _ (And.intro (tabL len8tab_get rfl (i:=_) (Nat.lt_of_le_of_lt (Nat.le_of_eq le.1) (show y / 2 ^ 16 / 2 ^ 8 < 256 by omega))) ?_))
   refine And.intro (Or.inr rfl) (int_eq ?_)
   exact Eq.trans (congrArg (fun z => IntKind.i64.wrap (((0 + 16 + 8 : Nat) : Int) + IntKind.i64.wrap (((UInt8.ofNat (bitLen z)).toNat : Nat) : Int))) le.1) le.2.2
  ·have h3' : ¬ ((y / 2 ^ 16 : Nat) : Int) ≥ 256:=by rw [<- E16]; exact h3
   have le:=lenL_end (n:=0 + 16) E16 (show y / 2 ^ 16 < 256 by omega) (show bitLen y = 0 + 16 + bitLen (y / 2 ^ 16) by
       have a:=bitLen_shift y 16 (by omega)
       omega) (by decide)
   refine And.intro le.2.1 (Exists.intro _ (And.intro (tabL len8tab_get rfl (i:=_) (Nat.lt_of_le_of_lt (Nat.le_of_eq le.1) (show y / 2 ^ 16 < 256 by omega))) ?_))
   refine And.intro (Or.inr rfl) (int_eq ?_)
   exact Eq.trans (congrArg (fun z => IntKind.i64.wrap (((0 + 16 : Nat) : Int) + IntKind.i64.wrap (((UInt8.ofNat (bitLen z)).toNat : Nat) : Int))) le.1) le.2.2
 ·have h2' : ¬ (y : Int) ≥ 65536:=h2
  refine br (fun h3 => ?_) (fun h3 => ?_)
  ·have h3' : (y : Int) ≥ 256:=h3
   refine And.intro (by decide) ?_
   have E8:=shr_nat32 8 hE (by decide)
   have le:=lenL_end (n:=0 + 8) E8 (show y / 2 ^ 8 < 256 by omega) (show bitLen y = 0 + 8 + bitLen (y / 2 ^ 8) by
       have a:=bitLen_shift y 8 (by omega)
       omega) (by decide)
   refine And.intro le.2.1 (Exists.intro _ (And.intro (tabL len8tab_get rfl (i:=_) (Nat.lt_of_le_of_lt (Nat.le_of_eq le.1) (show y / 2 ^ 8 < 256 by omega))) ?_))
   refine And.intro (Or.inr rfl) (int_eq ?_)
   exact Eq.trans (congrArg (fun z => IntKind.i64.wrap (((0 + 8 : Nat) : Int) + IntKind.i64.wrap (((UInt8.ofNat (bitLen z)).toNat : Nat) : Int))) le.1) le.2.2
  ·have h3' : ¬ (y : Int) ≥ 256:=h3
   have le:=lenL_end (n:=0) hE (show y < 256 by omega) hL (by decide)
   refine And.intro le.2.1 (Exists.intro _ (And.intro (tabL len8tab_get rfl (i:=_) (Nat.lt_of_le_of_lt (Nat.le_of_eq le.1) (show y < 256 by omega))) ?_))
   refine And.intro (Or.inr rfl) (int_eq ?_)
   exact Eq.trans (congrArg (fun z => IntKind.i64.wrap (((0 : Nat) : Int) + IntKind.i64.wrap (((UInt8.ofNat (bitLen z)).toNat : Nat) : Int))) le.1) le.2.2
theorem bitLen32 {y : Nat} (h1 : y < 2 ^ 32) : bitLen y <= 32∧y < 2 ^ bitLen y∧(y ≠ 0 -> 2 ^ bitLen y <= 2 * y):=by
 obtain ⟨a,b⟩:=bitLen_spec y
 refine ⟨?_,a,fun h => ?_⟩
 ·rcases Nat.eq_zero_or_pos y with e | e
  ·subst e; decide
  ·have b:=b (by omega)
   refine Nat.le_of_not_lt fun h => ?_
   have : 2 ^ 32 <= 2 ^ (bitLen y - 1):=Nat.pow_le_pow_right (by decide) (by omega)
   omega
 ·have b:=b h
  have hl0 : 0 < bitLen y:=by
   rcases Nat.eq_zero_or_pos (bitLen y) with e | e
   ·rw [e] at a; omega
   ·exact e
  rw [show bitLen y = bitLen y - 1 + 1 by omega,Nat.pow_succ]
  omega
theorem lz32_spec (gl : List (Nat × AV)) (y : Nat) (hy : y < 2 ^ 32) : Spec Tryz.prog gl 165 [.int .u32 (y : Int)] (.int .i64 ((32 - bitLen y : Nat) : Int)):=by
 have s:=len32_spec gl y hy
 have hb:=(bitLen32 hy).1
 have e : w64 (32 - (bitLen y : Int)) = ((32 - bitLen y : Nat) : Int):=by rw [w64_eq (by omega)]; omega
 rw [<- e]
 refine spec_fn T_ok mixed_ok 1 Tryz.func165 fn_ok165 (by kernel_rfl) ?_
 first | refine Exists.intro _ (And.intro (s) ?_) | refine Hn_by (Exists.intro _ (And.intro (s) ?_))
 exact And.intro (Or.inr rfl) rfl
end Ab
end
section
open Go Go.Proofs
namespace Ab
set_option maxRecDepth 100000
set_option maxHeartbeats 1000000
theorem copied4 (m : List Int) (L : Nat) (h : m.length <= L) : ((List.replicate L [AV.int .u32 0]).take 0 ++ (irows .u32 m).take L ++ (List.replicate L [AV.int .u32 0]).drop (0 + min (irows .u32 m).length L)) = irows .u32 (m ++ List.replicate (L - m.length) 0):=by
 rw [List.take_zero,List.nil_append,List.take_of_length_le (by rw [irows_len]; exact h),irows_len,Nat.zero_add,Nat.min_eq_left h,List.drop_replicate,irows_rep,irows_app]
theorem val_pad (m : List Int) (k : Nat) : Dg.val (m ++ List.replicate k 0) = Dg.val m:=by rw [Dg.val_app,Dg.val_rep,Int.mul_zero,Int.add_zero]
theorem div_small (gl : List (Nat × AV)) {a b : List Int} (ha : Dg.D a) (hb : Dg.D b) (ca : Dg.Canon a) (cb : Dg.Canon b) (hla : a.length <= 1048576) (h : Dg.val a < Dg.val b) :
  Spec Tryz.prog gl 147 [lim a,lim b] (.tup [lim [],lim a]):=by
 have s:=compare_spec gl ha hb ca cb (by omega)
 have hc : Dg.cmp (Dg.val a) (Dg.val b) < 0:=by unfold Dg.cmp; rw [if_pos h]; decide
 refine spec_fn T_ok mixed_ok 1 Tryz.func147 fn_ok147 (by kernel_rfl) ?_
 first | refine Exists.intro _ (And.intro (s) ?_) | refine Hn_by (Exists.intro _ (And.intro (s) ?_))
 refine br (fun _ => ?_) (fun g => absurd hc g)
 exact And.intro (Or.inr rfl) rfl
theorem div_one (gl : List (Nat × AV)) {a : List Int} {d : Int} (ha : Dg.D a) (hd : 0 < d∧d < 4294967296) (ca : Dg.Canon a) (hla : a.length <= 1048576) (h : ¬ Dg.val a < d) :
  Spec Tryz.prog gl 147 [lim a,lim [d]] (.tup [lim (Dg.mag (Dg.val a / d)),lim (Dg.mag (Dg.val a % d))]):=by
 have hD : Dg.D [d]:=Dg.D.cons.2 ⟨⟨by omega,by simp only [Dg.B]; omega⟩,Dg.D.nil⟩
 have hC : Dg.Canon [d]:=fun x hx => by simp at hx; omega
 have s:=compare_spec gl ha hD ca hC (by omega)
 have hv : Dg.val [d] = d:=by simp [Dg.val]
 rw [hv] at s
 have hc : ¬ Dg.cmp (Dg.val a) d < 0:=by unfold Dg.cmp; rw [if_neg h]; split <;> decide
 have s2:=small_spec gl ha hd (by omega)
 have hr:=Int.emod_nonneg (Dg.val a) (show d ≠ 0 by omega)
 have hr2:=Int.emod_lt_of_pos (Dg.val a) hd.1
 have s3:=trimmed_spec gl [Dg.val a % d] (by simp)
 have hD2 : Dg.D [Dg.val a % d]:=Dg.D.cons.2 ⟨⟨hr,by simp only [Dg.B]; omega⟩,Dg.D.nil⟩
 rw [Dg.trim_mag hD2,show Dg.val [Dg.val a % d] = Dg.val a % d by simp [Dg.val]] at s3
 generalize Dg.val a % d = r at s2 s3 ⊢
 generalize Dg.cmp (Dg.val a) d = c at s hc
 refine spec_fn T_ok mixed_ok 1 Tryz.func147 fn_ok147 (by kernel_rfl) ?_
 first | refine Exists.intro _ (And.intro (s) ?_) | refine Hn_by (Exists.intro _ (And.intro (s) ?_))
 refine br (fun g => absurd g hc) (fun _ => ?_)
 repeat (first | refine gT ?_ | refine gF ?_ | refine brT ?_ | refine brF ?_)
 refine And.intro (by decide) (Exists.intro _ (And.intro rfl ?_))
 first | refine Exists.intro _ (And.intro (s2) ?_) | refine Hn_by (Exists.intro _ (And.intro (s2) ?_))
 refine Hn_by (And.intro (Nat.le_refl 1) (Exists.intro _ (And.intro s3 ?_)))
 exact And.intro (Or.inr rfl) rfl
theorem norm_len {y : Int} {s n : Nat} {t : Nat} (hy : 0 < y) (hn : (Dg.mag y).length = n) (hn2 : 2 <= n) (ht : (Dg.mag y).getD (n - 1) 0 = (t : Int)) (ht0 : 0 < t) (ht1 : t < 2 ^ 32) (hs : s = 32 - bitLen t) :
  (Dg.mag (y * 2 ^ s)).length = n∧y * 2 ^ s < Dg.B ^ n∧Dg.B ^ (n - 1) * 2 ^ s <= y * 2 ^ s∧s < 32:=by
 obtain ⟨b1,b2,b3⟩:=bitLen32 ht1
 have b3:=b3 (by omega)
 have p : (0 : Int) < 2 ^ s:=Int.pow_pos (by decide)
 have hD:=Dg.magD y
 have hv : Dg.val (Dg.mag y) = y:=Dg.magV (by omega)
 have hsp:=Dg.split_getD (l:=Dg.mag y) (i:=n - 1) (by omega)
 rw [hv,ht,show n - 1 + 1 = n by omega,List.drop_eq_nil_of_le (by omega),show Dg.val [] = 0 from rfl,Int.mul_zero,Int.add_zero] at hsp
 have htk:=Dg.val_take_lt hD (n - 1)
 have pw:=Dg.pow_pos (n - 1)
 have e : Dg.B = (2 : Int) ^ bitLen t * 2 ^ s:=by rw [<- Int.pow_add,show bitLen t + s = 32 by omega]; rfl
 have tb : (t : Int) + 1 <= 2 ^ bitLen t:=by
  rw [<- pow_cast]; omega
 have hlt : y * 2 ^ s < Dg.B ^ n:=by
  have h1 : y < Dg.B ^ (n - 1) * ((t : Int) + 1):=by rw [Int.mul_add,Int.mul_one]; omega
  have h2 : Dg.B ^ (n - 1) * ((t : Int) + 1) <= Dg.B ^ (n - 1) * 2 ^ bitLen t:=Int.mul_le_mul_of_nonneg_left tb (Int.le_of_lt pw)
  have h3 : y * 2 ^ s < Dg.B ^ (n - 1) * 2 ^ bitLen t * 2 ^ s:=Int.mul_lt_mul_of_pos_right (by omega) p
  rw [Int.mul_assoc,<- e,<- Int.pow_succ,show (n - 1).succ = n by omega] at h3
  exact h3
 have hge : Dg.B ^ (n - 1) <= y:=by
  have : Dg.B ^ (n - 1) * 1 <= Dg.B ^ (n - 1) * (t : Int):=Int.mul_le_mul_of_nonneg_left (by omega) (Int.le_of_lt pw)
  omega
 have hys : y <= y * 2 ^ s:=by
  have : y * 1 <= y * 2 ^ s:=Int.mul_le_mul_of_nonneg_left (by omega) (by omega)
  omega
 have hl0 : 0 < bitLen t:=by
  rcases Nat.eq_zero_or_pos (bitLen t) with e | e
  ·rw [e] at b2; omega
  ·exact e
 refine ⟨Nat.le_antisymm (Dg.mag_len_lt (by omega) hlt) ?_,hlt,Int.mul_le_mul_of_nonneg_right hge (Int.le_of_lt p),by omega⟩
 rw [<- hn]
 exact mag_le (by omega) hys
theorem div_step {X V T U W' O : Int} {j : Nat} (hv : U + Dg.B ^ (j + 1) * (O * V) = X) (hw : W' = U - Dg.B ^ j * (T * V)) : W' + Dg.B ^ j * ((T + Dg.B * O) * V) = X:=by
 rw [hw,<- hv,Int.pow_succ]
 grind
theorem take_by (gl : List (Nat × AV)) {N : Nat} {s : St} {K : AV -> St -> Prop} {u v o : List Int} {j n L : Nat} {q J : Int} (hJ : J = (j : Int)) (hL : L = u.length) (hu : Dg.D u) (hv : Dg.D v) (hvl : v.length = n) (hn : 2 <= n) (hj : j + n < u.length) (hul : u.length <= 1048576) (hq : 0 <= q∧q < Dg.B) (hV : 0 < Dg.val v)
  (hW : Dg.val (u.drop j) < Dg.B ^ (n + 1)) (q1 : Dg.val (u.drop j) / Dg.val v <= q) (q2 : q <= Dg.val (u.drop j) / Dg.val v + 1) (h0 : s.hp 0 = some (.arr (60,1) (irows .u32 u) true)) (h1 : s.hp 1 = some (.arr (60,1) (irows .u32 o) true)) (hnx : s.nx <= 2)
  (hK : ∀ w : List Int,Dg.TakeOk u w j (Dg.val (u.drop j) / Dg.val v * Dg.val v) -> K (.int .u32 (Dg.val (u.drop j) / Dg.val v)) ⟨s.tm,(stOf [] [(0,.arr (60,1) (irows .u32 w) true),(1,.arr (60,1) (irows .u32 o) true)] 2).hp,2⟩) :
  Hn Tryz.prog T gl (N + 1) (.fn 167) [.ms 0 0 L,.int .i64 J,lim v,.int .u64 q] s K:=by
 subst hJ hL
 exact take_in gl hu hv hvl hn hj hul hq hV hW q1 q2 h0 h1 hnx hK
theorem div_gen (gl : List (Nat × AV)) {x y : Int} (hx : 0 <= x) (hy : 0 < y) (hxy : ¬ x < y) (hla : (Dg.mag x).length <= 524288) {n : Nat} (hn : (Dg.mag y).length = n) (hn2 : 2 <= n) :
  Spec Tryz.prog gl 147 [lim (Dg.mag x),lim (Dg.mag y)] (.tup [lim (Dg.mag (x / y)),lim (Dg.mag (x % y))]):=by
 have c:=compare_spec gl (Dg.magD x) (Dg.magD y) (Dg.magC x) (Dg.magC y) (by omega)
 rw [Dg.magV hx,Dg.magV (by omega)] at c
 have hc : ¬ Dg.cmp x y < 0:=by unfold Dg.cmp; rw [if_neg hxy]; split <;> decide
 have hyD:=Dg.magD y
 have hxv:=Dg.magV hx
 have hyv : Dg.val (Dg.mag y) = y:=Dg.magV (by omega)
 have hyc:=Dg.magC y
 have tb:=Dg.getD_bd hyD (n - 1)
 have tne : (Dg.mag y).getD (n - 1) 0 ≠ 0:=hyc _ (by rw [List.getLast?_eq_getElem?,hn]; exact getD_some (by omega))
 obtain ⟨t,ht⟩:=Int.eq_ofNat_of_zero_le tb.1
 have t0 : 0 < t:=by omega
 have t1 : t < 2 ^ 32:=by simp only [Dg.B] at tb; omega
 have sl:=lz32_spec gl t t1
 obtain ⟨s,hs⟩ : ∃ s,s = 32 - bitLen t:=⟨_,rfl⟩
 obtain ⟨nl,nv,ng,s32⟩:=norm_len hy hn hn2 ht t0 t1 hs
 rw [<- hs] at sl
 have p : (0 : Int) < 2 ^ s:=Int.pow_pos (by decide)
 have lb:=left_spec gl hyD (by rw [hn]; have:=mag_le (Int.le_of_lt hy) (Int.not_lt.1 hxy); omega) (n:=s) (by omega)
 rw [hyv] at lb
 have lx:=left_spec gl (Dg.magD x) (by omega) (n:=s) (by omega)
 rw [hxv] at lx
 have hX0 : 0 <= x * 2 ^ s:=Int.mul_nonneg hx (Int.le_of_lt p)
 have hV0 : 0 < y * 2 ^ s:=Int.mul_pos hy p
 obtain ⟨la,hla'⟩ : ∃ la,la = (Dg.mag x).length:=⟨_,rfl⟩
 have hnla : n <= la:=by rw [hla',<- hn]; exact mag_le (Int.le_of_lt hy) (Int.not_lt.1 hxy)
 have hxB : x < Dg.B ^ la:=by
  have:=Dg.val_lt (Dg.magD x)
  rwa [hxv,<- hla'] at this
 have hXB : x * 2 ^ s < Dg.B ^ (la + 1):=by
  rw [Int.pow_succ]
  refine Int.lt_of_lt_of_le (Int.mul_lt_mul_of_pos_right hxB p) (Int.mul_le_mul_of_nonneg_left ?_ (Int.le_of_lt (Dg.pow_pos la)))
  have:=two_pow_B (n:=s) (k:=1) (by omega)
  rwa [show Dg.B ^ 1 = Dg.B by decide] at this
 have hml : (Dg.mag (x * 2 ^ s)).length <= la + 1:=Dg.mag_len_lt hX0 hXB
 obtain ⟨m1,hm1⟩ : ∃ m1,m1 = la - n + 1:=⟨_,rfl⟩
 have lxl : ((irows .u32 (Dg.mag x)).length : Int) = la:=by rw [irows_len,hla']
 have lyl : ((irows .u32 (Dg.mag y)).length : Int) = n:=by rw [irows_len,hn]
 have k1 : w64 (((irows .u32 (Dg.mag y)).length : Int) - 1) = ((n - 1 : Nat) : Int):=by rw [lyl,w64_eq (by omega)]; omega
 have k2 : w64 (((irows .u32 (Dg.mag x)).length : Int) + 1) = ((la + 1 : Nat) : Int):=by rw [lxl,w64_eq (by omega)]; omega
 have k3 : w64 (w64 (((irows .u32 (Dg.mag x)).length : Int) - ((irows .u32 (Dg.mag y)).length : Int)) + 1) = ((m1 : Nat) : Int):=by rw [lxl,lyl,w64_eq (n:=(la : Int) - (n : Int)) (by omega),w64_eq (by omega)]; omega
 have iy : (irows .u32 (Dg.mag y))[(w64 (((irows .u32 (Dg.mag y)).length : Int) - 1)).toNat]? = some [.int .u32 (t : Int)]:=irows_at (by rw [k1,Int.toNat_natCast,<- ht]; exact getD_some (by omega))
 obtain ⟨V,hV⟩ : ∃ V,V = y * 2 ^ s:=⟨_,rfl⟩
 obtain ⟨X,hX⟩ : ∃ X,X = x * 2 ^ s:=⟨_,rfl⟩
 rw [<- hV] at lb nl nv ng hV0
 rw [<- hX] at lx hX0 hXB hml
 have vD:=Dg.magD V
 have vv : Dg.val (Dg.mag V) = V:=Dg.magV (by omega)
 have vt0 : (Dg.mag V).getD (n - 1) 0 ≠ 0:=Dg.magC V _ (by rw [List.getLast?_eq_getElem?,nl]; exact getD_some (by omega))
 have xD:=Dg.magD X
 have xv : Dg.val (Dg.mag X) = X:=Dg.magV hX0
 obtain ⟨u0,hu0⟩ : ∃ u0,u0 = Dg.mag X ++ List.replicate (la + 1 - (Dg.mag X).length) 0:=⟨_,rfl⟩
 have u0l : u0.length = la + 1:=by rw [hu0,List.length_append,List.length_replicate]; omega
 have u0D : Dg.D u0:=by rw [hu0]; exact Dg.D.app.2 ⟨xD,Dg.D.rep _⟩
 have u0v : Dg.val u0 = X:=by rw [hu0,val_pad,xv]
 have hstart : Dg.val (u0.drop m1) < V:=by
  have a:=Dg.take_drop_val u0 m1 (by omega)
  have b:=(Dg.val_take_lt u0D m1).1
  rw [u0v] at a
  have pm:=Dg.pow_pos m1
  refine Dg.mul_lt_cancel pm ?_
  have e : Dg.B ^ la = Dg.B ^ (n - 1) * Dg.B ^ m1:=by rw [<- Int.pow_add,show n - 1 + m1 = la by omega]
  have h1 : X < Dg.B ^ la * 2 ^ s:=by rw [hX]; exact Int.mul_lt_mul_of_pos_right hxB p
  have h2 : Dg.B ^ la * 2 ^ s <= V * Dg.B ^ m1:=by
   have : Dg.B ^ (n - 1) * 2 ^ s * Dg.B ^ m1 <= V * Dg.B ^ m1:=Int.mul_le_mul_of_nonneg_right ng (Int.le_of_lt pm)
   rw [e]
   have e2 : Dg.B ^ (n - 1) * Dg.B ^ m1 * 2 ^ s = Dg.B ^ (n - 1) * 2 ^ s * Dg.B ^ m1:=by grind
   omega
  rw [Int.mul_comm]
  omega
 have hq : x / y = X / V:=by rw [hX,hV,Int.mul_ediv_mul_of_pos_left _ _ p]
 have hr : x % y * 2 ^ s = X % V:=by rw [hX,hV,Int.mul_comm x,Int.mul_comm y,Int.mul_emod_mul_of_pos _ _ p,Int.mul_comm]
 refine spec_fn T_ok mixed_ok 1 Tryz.func147 fn_ok147 (by kernel_rfl) ?_
 first | refine Exists.intro _ (And.intro (c) ?_) | refine Hn_by (Exists.intro _ (And.intro (c) ?_))
 refine br (fun g => absurd g hc) (fun _ => ?_)
 refine brE (fun g => ?_) (fun _ => ?_)
 ·have g' : ((irows .u32 (Dg.mag y)).length : Int) = 1:=g
  omega
 refine And.intro (show 0 <= w64 (((irows .u32 (Dg.mag y)).length : Int) - 1) by omega) (Exists.intro _ (And.intro iy ?_))
 first | refine Exists.intro _ (And.intro (sl) ?_) | refine Hn_by (Exists.intro _ (And.intro (sl) ?_))
 first | refine Exists.intro _ (And.intro (lb) ?_) | refine Hn_by (Exists.intro _ (And.intro (lb) ?_))
 have M0 : 0 <= w64 (((irows .u32 (Dg.mag x)).length : Int) + 1):=by omega
 have M1 : w64 (((irows .u32 (Dg.mag x)).length : Int) + 1) * 4 <= 140737488355328:=by omega
 have M2 : w64 (((irows .u32 (Dg.mag x)).length : Int) + 1) <= maxLen:=by simp [maxLen]; omega
 refine And.intro M0 (And.intro (Int.le_refl _) (And.intro M1 (And.intro M2 ?_)))
 first | refine Exists.intro _ (And.intro (lx) ?_) | refine Hn_by (Exists.intro _ (And.intro (lx) ?_))
 refine And.intro (irows_ok _ _) (And.intro (show 0 + (w64 (((irows .u32 (Dg.mag x)).length : Int) + 1)).toNat <= (List.replicate (w64 (((irows .u32 (Dg.mag x)).length : Int) + 1)).toNat [AV.int .u32 0]).length by simp) ?_)
 have N0 : 0 <= w64 (w64 (((irows .u32 (Dg.mag x)).length : Int) - ((irows .u32 (Dg.mag y)).length : Int)) + 1):=by omega
 have N1 : w64 (w64 (((irows .u32 (Dg.mag x)).length : Int) - ((irows .u32 (Dg.mag y)).length : Int)) + 1) * 4 <= 140737488355328:=by omega
 have N2 : w64 (w64 (((irows .u32 (Dg.mag x)).length : Int) - ((irows .u32 (Dg.mag y)).length : Int)) + 1) <= maxLen:=by simp [maxLen]; omega
 refine And.intro N0 (And.intro (Int.le_refl _) (And.intro N1 (And.intro N2 ?_)))
 refine aw_loop (fun q : Nat × List Int × List Int => stOf [(8,.int .i64 (s : Int)),(9,lim (Dg.mag V)),(10,.ms 0 0 (la + 1)),(11,.ms 1 0 m1),(63,.int .i64 (m1 : Int)),(64,.int .i64 (q.1 : Int))] [(0,.arr (60,1) (irows .u32 q.2.1) true),(1,.arr (60,1) (irows .u32 q.2.2) true)] 2)
  (fun q => q.1 <= m1∧Dg.D q.2.1∧q.2.1.length = la + 1∧Dg.D q.2.2∧q.2.2.length = m1∧Dg.val (q.2.1.drop (m1 - q.1)) < V∧Dg.val q.2.1 + Dg.B ^ (m1 - q.1) * (Dg.val (q.2.2.drop (m1 - q.1)) * V) = X) (fun q => m1 - q.1) (0,u0,List.replicate m1 0)
  ⟨Nat.zero_le _,u0D,u0l,Dg.D.rep _,by simp,by rw [Nat.sub_zero]; exact hstart,by simp [u0v,Dg.val]⟩
  (le_by ⟨rfl,rfl,(show AV.ms 0 0 (w64 (((irows .u32 (Dg.mag x)).length : Int) + 1)).toNat = _ by rw [k2,Int.toNat_natCast]),(show AV.ms 1 0 (w64 (w64 (((irows .u32 (Dg.mag x)).length : Int) - ((irows .u32 (Dg.mag y)).length : Int)) + 1)).toNat = _ by rw [k3,Int.toNat_natCast]),int_eq (show (((w64 (w64 (((irows .u32 (Dg.mag x)).length : Int) - ((irows .u32 (Dg.mag y)).length : Int)) + 1)).toNat : Nat) : Int) = _ by rw [k3,Int.toNat_natCast]),rfl,trivial⟩
   ⟨(show some (Blk.arr (60,1) ((List.replicate (w64 (((irows .u32 (Dg.mag x)).length : Int) + 1)).toNat [AV.int .u32 0]).take 0 ++ (irows .u32 (Dg.mag X)).take (w64 (((irows .u32 (Dg.mag x)).length : Int) + 1)).toNat ++ (List.replicate (w64 (((irows .u32 (Dg.mag x)).length : Int) + 1)).toNat [AV.int .u32 0]).drop (0 + min (irows .u32 (Dg.mag X)).length (w64 (((irows .u32 (Dg.mag x)).length : Int) + 1)).toNat)) true) = _ by rw [k2,Int.toNat_natCast,copied4 _ _ hml,<- hu0]),
     (show some (Blk.arr (60,1) (List.replicate (w64 (w64 (((irows .u32 (Dg.mag x)).length : Int) - ((irows .u32 (Dg.mag y)).length : Int)) + 1)).toNat [AV.int .u32 0]) true) = _ by rw [k3,Int.toNat_natCast,irows_rep]),trivial⟩ (Nat.le_refl _)) ?_
 rintro ⟨k,u,o⟩ ⟨hk,hu,hul,ho,hol,hlt,hv⟩ P hP
 simp only at hk hu hul ho hol hlt hv
 refine br (fun h2 => ?_) (fun h2 => ?_)
 ·have hkm : k < m1:=by have : (k : Int) < (m1 : Int):=h2; omega
  obtain ⟨j,hj⟩ : ∃ j,j = m1 - 1 - k:=⟨_,rfl⟩
  have hj1 : m1 - k = j + 1:=by omega
  rw [hj1] at hlt hv
  have kJ : w64 (w64 ((m1 : Int) - 1) - k) = (j : Int):=by rw [w64_eq (n:=(m1 : Int) - 1) (by omega),w64_eq (by omega)]; omega
  have hW : Dg.val (u.drop j) < V * Dg.B:=by
   have e:=Dg.drop_split (l:=u) (i:=j) (by omega)
   have b:=Dg.getD_bd hu j
   rw [e]
   simp only [Dg.B] at *
   omega
  have hWB : Dg.val (u.drop j) < Dg.B ^ (n + 1):=by
   refine Int.lt_trans hW ?_
   rw [Int.pow_succ]
   exact Int.mul_lt_mul_of_pos_right nv (by decide)
  have dh:=Dg.dh_of hu vD hn2 nl (j:=j) (by omega) vt0 (by rw [vv]; exact hW)
  rw [vv] at dh
  have dg:=digit_walk gl (u:=u) (v:=Dg.mag V) (j:=j) (n:=n) nl hn2 (by omega) (by omega) rfl (show u.getD (j + n - 1) 0 = u.getD (j + (n - 1)) 0 by rw [show j + n - 1 = j + (n - 1) by omega]) (show u.getD (j + n - 2) 0 = u.getD (j + (n - 2)) 0 by rw [show j + n - 2 = j + (n - 2) by omega]) rfl rfl (Dg.getD_bd hu _) (Dg.getD_bd hu _) dh
  obtain ⟨d1,d2,d3⟩:=Dg.digR_ok dh
  have T0 : 0 <= Dg.val (u.drop j) / V:=Int.ediv_nonneg (Dg.val_nonneg (hu.drop j)) (by omega)
  have TB : Dg.val (u.drop j) / V < Dg.B:=Int.ediv_lt_of_lt_mul hV0 (by rw [Int.mul_comm]; exact hW)
  generalize Dg.digR ((Dg.mag V).getD (n - 2) 0) ((Dg.mag V).getD (n - 1) 0) (u.getD (j + (n - 2)) 0) (u.getD (j + n) 0 * Dg.B + u.getD (j + (n - 1)) 0) = q at dg d1 d2 d3
  have e5 : ((irows .u32 u).drop 0).take (la + 1) = irows .u32 u:=by
   rw [List.drop_zero,List.take_of_length_le (by rw [irows_len]; omega)]
  rw [show lim u = AV.sl (irows .u32 u) from rfl,<- e5,<- kJ] at dg
  refine Hn_by (And.intro (show 0 + (la + 1) <= (irows .u32 u).length by rw [irows_len]; omega) (Exists.intro _ (And.intro dg ?_)))
  refine take_by gl (u:=u) (o:=o) (n:=n) (j:=j) kJ hul.symm hu vD nl hn2 (by omega) (by omega) ⟨by omega,d3⟩ (by rw [vv]; exact hV0) hWB (by rw [vv]; exact d1) (by rw [vv]; exact d2) rfl rfl (Nat.le_refl _) (fun z hz => ?_)
  rw [vv] at hz ⊢
  obtain ⟨z1,z2,z3,z4⟩:=hz
  have io : (irows .u32 o)[0 + (w64 (w64 ((m1 : Int) - 1) - k)).toNat]? = some [.int .u32 (o.getD j 0)]:=irows_at (by rw [kJ,Nat.zero_add,Int.toNat_natCast]; exact getD_some (by omega))
  have hw2 : w64 ((k : Int) + 1) = ((k + 1 : Nat) : Int):=by rw [w64_eq (by omega)]; omega
  have J0 : 0 <= w64 (w64 ((m1 : Int) - 1) - k):=by omega
  have J1 : w64 (w64 ((m1 : Int) - 1) - k) < (m1 : Int):=by omega
  refine And.intro J0 (And.intro J1 (Exists.intro _ (And.intro io ?_)))
  refine hP (k + 1,z,o.set j (Dg.val (u.drop j) / V)) _ (le_by ⟨rfl,rfl,rfl,rfl,rfl,int_eq hw2,trivial⟩ ⟨rfl,(show some (Blk.arr (60,1) ((irows .u32 o).set (0 + (w64 (w64 ((m1 : Int) - 1) - k)).toNat) [.int .u32 (Dg.val (u.drop j) / V)]) true) = _ by rw [kJ,Nat.zero_add,Int.toNat_natCast,irows_set]),trivial⟩ (Nat.le_refl _))
   ⟨by show k + 1 <= m1; omega,z1,by show z.length = la + 1; omega,ho.set T0 TB,by simp [hol],?_,?_⟩ (by show m1 - (k + 1) < m1 - k; omega)
  ·show Dg.val (z.drop (m1 - (k + 1))) < V
   rw [show m1 - (k + 1) = j by omega,Dg.window z2 (by omega) z3 z4]
   have:=Int.lt_ediv_add_one_mul_self (Dg.val (u.drop j)) hV0
   rw [Int.add_mul,Int.one_mul] at this
   omega
  ·show Dg.val z + Dg.B ^ (m1 - (k + 1)) * (Dg.val ((o.set j (Dg.val (u.drop j) / V)).drop (m1 - (k + 1))) * V) = X
   have e6 : (o.set j (Dg.val (u.drop j) / V)).drop j = Dg.val (u.drop j) / V :: o.drop (j + 1):=by
    rw [List.drop_set,if_neg (by omega),Nat.sub_self,List.drop_eq_getElem_cons (by omega)]; rfl
   rw [show m1 - (k + 1) = j by omega,e6,Dg.val]
   exact div_step hv z4
 ·have hkm : k = m1:=by have : ¬ (k : Int) < (m1 : Int):=h2; omega
  subst hkm
  clear hP
  rw [Nat.sub_self,List.drop_zero] at hlt
  rw [Nat.sub_self,List.drop_zero,Int.pow_zero,Int.one_mul] at hv
  have u0':=Dg.val_nonneg hu
  have hQ : X / V = Dg.val o:=by rw [<- hv,Int.add_mul_ediv_right _ _ (by omega),Int.ediv_eq_zero_of_lt u0' hlt,Int.zero_add]
  have hM : X % V = Dg.val u:=by rw [<- hv,Int.add_mul_emod_self_right,Int.emod_eq_of_lt u0' hlt]
  have hrem : Dg.val u / 2 ^ s = x % y:=by rw [<- hM,<- hr,Int.mul_ediv_cancel _ (by omega)]
  rw [hq,hQ,<- hrem]
  have t1':=trimmed_spec gl u (by omega)
  rw [Dg.trim_mag hu] at t1'
  have t2':=trimmed_spec gl o (by omega)
  rw [Dg.trim_mag ho] at t2'
  have rs:=iright_spec gl (Dg.magD (Dg.val u)) (Dg.magC (Dg.val u)) (by
   have a:=Dg.mag_len_lt (n:=Dg.val u) (k:=la + 1) u0' (by have:=Dg.val_lt hu; rwa [hul] at this)
   omega) (n:=s) (by omega)
  rw [Dg.magV u0'] at rs
  have e5 : ((irows .u32 u).drop 0).take (la + 1) = irows .u32 u:=by
   rw [List.drop_zero,List.take_of_length_le (by rw [irows_len]; omega)]
  have e6 : ((irows .u32 o).drop 0).take k = irows .u32 o:=by
   rw [List.drop_zero,List.take_of_length_le (by rw [irows_len]; omega)]
  rw [show lim u = AV.sl (irows .u32 u) from rfl,<- e5] at t1'
  rw [show lim o = AV.sl (irows .u32 o) from rfl,<- e6] at t2'
  refine Hn_by (And.intro (show 0 + (la + 1) <= (irows .u32 u).length by rw [irows_len]; omega) (Exists.intro _ (And.intro t1' ?_)))
  first | refine Exists.intro _ (And.intro (rs) ?_) | refine Hn_by (Exists.intro _ (And.intro (rs) ?_))
  refine Hn_by (And.intro (show 0 + k <= (irows .u32 o).length by rw [irows_len]; omega) (Exists.intro _ (And.intro t2' ?_)))
  exact And.intro (Or.inr rfl) rfl
theorem divide_int (gl : List (Nat × AV)) {x y : Int} (hx : 0 <= x) (hy : 0 < y) (hla : (Dg.mag x).length <= 524288) : Spec Tryz.prog gl 147 [lim (Dg.mag x),lim (Dg.mag y)] (.tup [lim (Dg.mag (x / y)),lim (Dg.mag (x % y))]):=by
 by_cases h : x < y
 ·rw [Int.ediv_eq_zero_of_lt hx h,Int.emod_eq_of_lt hx h,Dg.mag_zero (Int.le_refl 0)]
  exact div_small gl (Dg.magD x) (Dg.magD y) (Dg.magC x) (Dg.magC y) (by omega) (by rw [Dg.magV hx,Dg.magV (by omega)]; exact h)
 ·have hyv:=Dg.magV (n:=y) (by omega)
  have hyD:=Dg.magD y
  by_cases h2 : 2 <= (Dg.mag y).length
  ·exact div_gen gl hx hy h hla rfl h2
  ·have hne : Dg.mag y ≠ []:=fun e => by have:=(mag_nil (n:=y) (by omega)).1 e; omega
   obtain ⟨d,hd⟩ : ∃ d,Dg.mag y = [d]:=by
    match hm : Dg.mag y with
    | [] => exact absurd hm hne
    | [d] => exact ⟨d,rfl⟩
    | a :: b :: r => rw [hm] at h2; simp at h2
   have hdy : d = y:=by rw [hd] at hyv; simpa [Dg.val] using hyv
   have hdB:=hyD d (by rw [hd]; simp)
   subst hdy
   rw [hd]
   have s:=div_one gl (Dg.magD x) (d:=d) ⟨hy,hdB.2⟩ (Dg.magC x) (by omega) (by rw [Dg.magV hx]; exact h)
   rw [Dg.magV hx] at s
   exact s
end Ab
end
section
open Go Go.Proofs
namespace Ab
set_option maxRecDepth 100000
set_option maxHeartbeats 1000000
theorem fits_le {a b : Int} (h : az a <= az b) (hb : Fits b) : Fits a:=Nat.le_trans (mag_le (az_nn a) h) hb
theorem fits_nn {a : Int} (h : 0 <= a) : az a = a:=by unfold az; omega
theorem mkZ_nn {a : Int} (h : 0 <= a) : mkZ a = mkI false (Dg.mag a):=by
 unfold mkZ
 rw [fits_nn h,decide_eq_false (by omega)]
theorem div_cases {a b : Int} (hb : 0 < b) : (0 <= a -> a / b = az a / b∧a % b = az a % b)∧(a < 0 -> az a % b = 0 -> a / b = -(az a / b)∧a % b = 0)∧(a < 0 -> az a % b ≠ 0 -> a / b = -(az a / b + 1)∧a % b = b - az a % b):=by
 refine ⟨fun h => by rw [fits_nn h]; exact ⟨rfl,rfl⟩,fun h h2 => ?_,fun h h2 => ?_⟩
 ·have e : az a = -a:=by unfold az; omega
  have d:=Int.mul_ediv_add_emod (az a) b
  rw [h2] at d
  have ea : a = b * -(az a / b):=by rw [Int.mul_neg]; omega
  generalize az a / b = q at *
  rw [ea]
  exact ⟨Int.mul_ediv_cancel_left _ (by omega),Int.mul_emod_right _ _⟩
 ·have e : az a = -a:=by unfold az; omega
  have d:=Int.mul_ediv_add_emod (az a) b
  have r0:=Int.emod_nonneg (az a) (show b ≠ 0 by omega)
  have r1:=Int.emod_lt_of_pos (az a) hb
  generalize az a / b = q at *
  generalize az a % b = r at *
  have ea : a = (b - r) + b * -(q + 1):=by rw [Int.mul_neg,Int.mul_add,Int.mul_one]; omega
  rw [ea]
  refine ⟨?_,?_⟩
  ·rw [Int.add_mul_ediv_left _ _ (by omega),Int.ediv_eq_zero_of_lt (by omega) (by omega),Int.zero_add]
  ·rw [Int.add_mul_emod_self_left,Int.emod_eq_of_lt (by omega) (by omega)]
theorem divmod_walk (gl : List (Nat × AV)) {an : Bool} {al bl q0 r0 q1 r1 ql rl : List Int} {qn rn : Bool} (s0 : Spec Tryz.prog gl 64 [mkI an al,mkI false bl] (.bool true)) (hb : ¬ ((irows .u32 bl).length : Int) = 0)
  (s1 : Spec Tryz.prog gl 147 [lim al,lim bl] (.tup [lim q0,lim r0])) (hn : an = true -> ((irows .u32 r0).length : Int) > 0 -> Spec Tryz.prog gl 116 [lim q0,lim [1]] (lim q1)∧Spec Tryz.prog gl 118 [lim bl,lim r0] (lim r1))
  (hz : ¬ (an = true∧((irows .u32 r0).length : Int) > 0) -> q1 = q0∧r1 = r0)
  (s3 : Spec Tryz.prog gl 63 [.bool an,lim q1] (.tup [mkI qn ql,.int .i64 0])) (s4 : Spec Tryz.prog gl 63 [.bool false,lim r1] (.tup [mkI rn rl,.int .i64 0])) :
  Spec Tryz.prog gl 121 [mkI an al,mkI false bl] (.tup [mkI qn ql,mkI rn rl,.int .i64 0]):=by
 cases an with
 | false =>
  obtain ⟨rfl,rfl⟩:=hz (by simp)
  refine spec_fn T_ok mixed_ok 1 Tryz.func121 fn_ok121 (by kernel_rfl) ?_
  first | refine Exists.intro _ (And.intro (s0) ?_) | refine Hn_by (Exists.intro _ (And.intro (s0) ?_))
  repeat (first | refine gT ?_ | refine gF ?_ | refine brT ?_ | refine brF ?_)
  refine brE (fun g => absurd g hb) (fun _ => ?_)
  first | refine Exists.intro _ (And.intro (s1) ?_) | refine Hn_by (Exists.intro _ (And.intro (s1) ?_))
  repeat (first | refine gT ?_ | refine gF ?_ | refine brT ?_ | refine brF ?_)
  first | refine Exists.intro _ (And.intro (s3) ?_) | refine Hn_by (Exists.intro _ (And.intro (s3) ?_))
  repeat (first | refine gT ?_ | refine gF ?_ | refine brT ?_ | refine brF ?_)
  first | refine Exists.intro _ (And.intro (s4) ?_) | refine Hn_by (Exists.intro _ (And.intro (s4) ?_))
  refine And.intro (by kernel_rfl) ?_
  repeat (first | refine gT ?_ | refine gF ?_ | refine brT ?_ | refine brF ?_ | refine And.intro rfl ?_)
  exact And.intro (Or.inr rfl) rfl
 | true =>
  by_cases hr : ((irows .u32 r0).length : Int) > 0
  ·obtain ⟨d1,d2⟩:=hn rfl hr
   refine spec_fn T_ok mixed_ok 1 Tryz.func121 fn_ok121 (by kernel_rfl) ?_
   first | refine Exists.intro _ (And.intro (s0) ?_) | refine Hn_by (Exists.intro _ (And.intro (s0) ?_))
   repeat (first | refine gT ?_ | refine gF ?_ | refine brT ?_ | refine brF ?_)
   refine brE (fun g => absurd g hb) (fun _ => ?_)
   first | refine Exists.intro _ (And.intro (s1) ?_) | refine Hn_by (Exists.intro _ (And.intro (s1) ?_))
   refine brT ?_
   refine brT ?_
   refine brT ?_
   refine br (fun _ => ?_) (fun g => absurd hr g)
   refine Hn_by (And.intro (Nat.le_refl 1) (Exists.intro _ (And.intro d1 ?_)))
   first | refine Exists.intro _ (And.intro (d2) ?_) | refine Hn_by (Exists.intro _ (And.intro (d2) ?_))
   first | refine Exists.intro _ (And.intro (s3) ?_) | refine Hn_by (Exists.intro _ (And.intro (s3) ?_))
   repeat (first | refine gT ?_ | refine gF ?_ | refine brT ?_ | refine brF ?_)
   first | refine Exists.intro _ (And.intro (s4) ?_) | refine Hn_by (Exists.intro _ (And.intro (s4) ?_))
   refine And.intro (by kernel_rfl) ?_
   repeat (first | refine gT ?_ | refine gF ?_ | refine brT ?_ | refine brF ?_ | refine And.intro rfl ?_)
   exact And.intro (Or.inr rfl) rfl
  ·obtain ⟨rfl,rfl⟩:=hz (fun g => hr g.2)
   refine spec_fn T_ok mixed_ok 1 Tryz.func121 fn_ok121 (by kernel_rfl) ?_
   first | refine Exists.intro _ (And.intro (s0) ?_) | refine Hn_by (Exists.intro _ (And.intro (s0) ?_))
   repeat (first | refine gT ?_ | refine gF ?_ | refine brT ?_ | refine brF ?_)
   refine brE (fun g => absurd g hb) (fun _ => ?_)
   first | refine Exists.intro _ (And.intro (s1) ?_) | refine Hn_by (Exists.intro _ (And.intro (s1) ?_))
   refine brT ?_
   refine brT ?_
   refine brT ?_
   refine br (fun g => absurd g hr) (fun _ => ?_)
   first | refine Exists.intro _ (And.intro (s3) ?_) | refine Hn_by (Exists.intro _ (And.intro (s3) ?_))
   repeat (first | refine gT ?_ | refine gF ?_ | refine brT ?_ | refine brF ?_)
   first | refine Exists.intro _ (And.intro (s4) ?_) | refine Hn_by (Exists.intro _ (And.intro (s4) ?_))
   refine And.intro (by kernel_rfl) ?_
   repeat (first | refine gT ?_ | refine gF ?_ | refine brT ?_ | refine brF ?_ | refine And.intro rfl ?_)
   exact And.intro (Or.inr rfl) rfl
theorem len_pos_mag {x : Int} (h : 0 <= x) : ((irows .u32 (Dg.mag x)).length : Int) > 0 ↔ 0 < x:=by
 rw [irows_len]
 have:=mag_nil h
 constructor
 ·intro g
  refine Int.not_le.1 fun e => ?_
  rw [this.2 (by omega)] at g
  simp at g
 ·intro g
  have : Dg.mag x ≠ []:=fun e => by have:=this.1 e; omega
  have:=List.length_pos_iff.2 this
  omega
theorem quo_abs {a b : Int} (hb : 0 < b) : az (a / b) <= az a:=by
 obtain ⟨c1,c2,c3⟩:=div_cases (a:=a) hb
 have d:=Int.mul_ediv_add_emod (az a) b
 have q0:=Int.ediv_nonneg (az_nn a) (Int.le_of_lt hb)
 have r0:=Int.emod_nonneg (az a) (show b ≠ 0 by omega)
 have r1:=Int.emod_lt_of_pos (az a) hb
 have e1 : 1 * (az a / b) <= b * (az a / b):=Int.mul_le_mul_of_nonneg_right hb q0
 by_cases h : a < 0
 ·by_cases h2 : az a % b = 0
  ·rw [(c2 h h2).1]
   have : az (-(az a / b)) = az a / b:=by unfold az at *; omega
   omega
  ·rw [(c3 h h2).1]
   have e2 : 2 * (az a / b) <= b * (az a / b):=Int.mul_le_mul_of_nonneg_right (by omega) q0
   have : az (-(az a / b + 1)) = az a / b + 1:=by unfold az at *; omega
   omega
 ·rw [(c1 (by omega)).1,fits_nn q0]
  omega
theorem result_fit (gl : List (Nat × AV)) {neg : Bool} {x z : Int} (hx : 0 <= x) (hz : sg neg x = z) (hf : Fits z) : Spec Tryz.prog gl 63 [.bool neg,lim (Dg.mag x)] (.tup [mkZ z,.int .i64 0]):=by
 have e : az z = x:=by rw [<- hz]; unfold sg az; split <;> omega
 have hb : x < Dg.B ^ 128:=by rw [<- e]; exact az_lt hf
 have s:=result_int gl hx hz hb (by decide)
 rwa [resZ_ok hf] at s
theorem divmod_int (gl : List (Nat × AV)) {a b : Int} (ha : Fits a) (hb : Fits b) (h0 : 0 < b) : Spec Tryz.prog gl 121 [mkZ a,mkZ b] (.tup [mkZ (a / b),mkZ (a % b),.int .i64 0]):=by
 have s0:=both_ok gl ha hb
 rw [mkZ_nn (a:=b) (by omega)] at s0 ⊢
 have fq : Fits (a / b):=fits_le (quo_abs h0) ha
 have m0:=Int.emod_nonneg a (show b ≠ 0 by omega)
 have m1:=Int.emod_lt_of_pos a h0
 have fr : Fits (a % b):=fits_le (by rw [fits_nn m0,fits_nn (a:=b) (by omega)]; omega) hb
 have s1:=divide_int gl (az_nn a) h0 (Nat.le_trans ha (by decide))
 have hbl : ¬ ((irows .u32 (Dg.mag b)).length : Int) = 0:=by
  have:=(len_pos_mag (x:=b) (by omega)).2 h0
  omega
 obtain ⟨c1,c2,c3⟩:=div_cases (a:=a) h0
 have q0:=Int.ediv_nonneg (az_nn a) (Int.le_of_lt h0)
 have r0:=Int.emod_nonneg (az a) (show b ≠ 0 by omega)
 have r1:=Int.emod_lt_of_pos (az a) h0
 have hlp:=len_pos_mag r0
 by_cases h : a < 0
 ·have hd:=decide_eq_true h
  by_cases h2 : az a % b = 0
  ·obtain ⟨e1,e2⟩:=c2 h h2
   have s3:=result_fit gl (neg:=true) q0 (by unfold sg; rw [if_pos rfl]; exact e1.symm) fq
   have s4:=result_fit gl (neg:=false) r0 (by unfold sg; rw [if_neg (by decide),h2]; exact e2.symm) fr
   unfold mkZ at s0 s3 s4 ⊢
   rw [hd] at s0 ⊢
   exact divmod_walk gl s0 hbl s1 (fun _ g => absurd (hlp.1 g) (by omega)) (fun _ => ⟨rfl,rfl⟩) s3 s4
  ·obtain ⟨e1,e2⟩:=c3 h h2
   have hD1 : Dg.D [1]:=Dg.D.cons.2 ⟨by decide,Dg.D.nil⟩
   have su:=sum_spec gl (Dg.magD (az a / b)) hD1 (by
    have:=mag_le q0 (show az a / b <= az a from Int.ediv_le_self b (az_nn a))
    have:=fits_len ha
    omega) (by simp)
   rw [Dg.magV q0,show Dg.val [1] = 1 by simp [Dg.val]] at su
   have di:=diff_spec gl (Dg.magD b) (Dg.magD (az a % b)) (by have:=fits_len hb; rw [fits_nn (a:=b) (by omega)] at this; omega) (mag_le r0 (Int.le_of_lt r1)) (by rw [Dg.magV (n:=b) (by omega),Dg.magV r0]; omega)
   rw [Dg.magV (n:=b) (by omega),Dg.magV r0] at di
   have s3:=result_fit gl (neg:=true) (x:=az a / b + 1) (by omega) (by unfold sg; rw [if_pos rfl]; exact e1.symm) fq
   have s4:=result_fit gl (neg:=false) (x:=b - az a % b) (by omega) (by unfold sg; rw [if_neg (by decide)]; exact e2.symm) fr
   unfold mkZ at s0 s3 s4 ⊢
   rw [hd] at s0 ⊢
   exact divmod_walk gl s0 hbl s1 (fun _ _ => ⟨su,di⟩) (fun g => absurd ⟨rfl,hlp.2 (by omega)⟩ g) s3 s4
 ·have hd:=decide_eq_false h
  obtain ⟨e1,e2⟩:=c1 (by omega)
  have s3:=result_fit gl (neg:=false) q0 (by unfold sg; rw [if_neg (by decide)]; exact e1.symm) fq
  have s4:=result_fit gl (neg:=false) r0 (by unfold sg; rw [if_neg (by decide)]; exact e2.symm) fr
  unfold mkZ at s0 s3 s4 ⊢
  rw [hd] at s0 ⊢
  exact divmod_walk gl s0 hbl s1 (fun g => absurd g (by decide)) (fun _ => ⟨rfl,rfl⟩) s3 s4
theorem word_or {i : Nat} (hi : i <= 1) {T x : Int} (hT : 0 <= T∧T < Dg.B ^ i) (hx : 0 <= x∧x < Dg.B) : Go.bits .or .u64 T (u64 (u64 x * 2 ^ (min (w64 (32 * (i : Int))).toNat IntKind.u64.bits))) = T + Dg.B ^ i * x:=by
 rcases Nat.le_one_iff_eq_zero_or_eq_one.1 hi with rfl | rfl
 ·have e0 : Dg.B ^ 0 = 1:=by decide
  rw [e0] at hT ⊢
  obtain rfl : T = 0:=by omega
  rw [show (w64 (32 * ((0 : Nat) : Int))).toNat = 0 by decide,Nat.zero_min]
  simp only [Dg.B] at hx
  obtain ⟨n,rfl⟩:=Int.eq_ofNat_of_zero_le hx.1
  rw [Int.pow_zero,Int.mul_one,u64_in (n:=(n : Int)) (by omega),u64_in (by omega),show (0 : Int) = ((0 : Nat) : Int) from rfl,u64_or_nat _ _ (by decide) (by omega),Nat.zero_or]
  omega
 ·have e1 : Dg.B ^ 1 = Dg.B:=by decide
  rw [e1] at hT ⊢
  rw [show min (w64 (32 * ((1 : Nat) : Int))).toNat IntKind.u64.bits = 32 by decide]
  have:=or_limb2 hT hx
  rw [u64_in (n:=T) (by simp only [Dg.B] at hT; omega)] at this
  exact this
theorem word_spec (gl : List (Nat × AV)) {l : List Int} (hl : Dg.D l) (h2 : l.length <= 2) : Spec Tryz.prog gl 148 [lim l] (.int .u64 (Dg.val l)):=by
 have la : ((irows .u32 l).length : Int) = l.length:=by rw [irows_len]
 refine spec_fn T_ok mixed_ok 0 Tryz.func148 fn_ok148 (by kernel_rfl) ?_
 refine aw_loop (fun i : Nat => stOf [(0,lim l),(3,.int .u64 (Dg.val (l.take i))),(6,.int .i64 (l.length : Int)),(7,.int .i64 (i : Int))] [] 0) (fun i => i <= l.length) (fun i => l.length - i) 0 (Nat.zero_le _)
  (le_by ⟨rfl,rfl,int_eq la,rfl,trivial⟩ trivial (Nat.le_refl _)) ?_
 intro i hi P hP
 refine br (fun h3 => ?_) (fun h3 => ?_)
 ·have hil : i < l.length:=by have : (i : Int) < (l.length : Int):=h3; omega
  have lx:=Dg.getD_bd hl i
  have ix : (irows .u32 l)[((i : Int)).toNat]? = some [.int .u32 (l.getD i 0)]:=irows_at (getD_some hil)
  have hw2 : w64 ((i : Int) + 1) = ((i + 1 : Nat) : Int):=by rw [w64_eq (by omega)]; omega
  have k0 : 0 <= w64 (32 * (i : Int)):=by rw [w64_eq (by omega)]; omega
  have e:=word_or (i:=i) (by omega) (Dg.val_take_lt hl i) lx
  rw [<- Dg.take_succ] at e
  refine And.intro (show (0 : Int) <= (i : Int) by omega) (Exists.intro _ (And.intro ix ?_))
  refine And.intro k0 ?_
  exact hP (i + 1) _ (le_by ⟨rfl,int_eq e,rfl,int_eq hw2,trivial⟩ trivial (Nat.le_refl _)) hil (by omega)
 ·clear hP
  have hil : i = l.length:=by have : ¬ (i : Int) < (l.length : Int):=h3; omega
  subst hil
  rw [List.take_length]
  exact And.intro (Or.inr rfl) rfl
theorem len_gt2 {x : Nat} : ((irows .u32 (Dg.mag (x : Int))).length : Int) > 2 ↔ ¬ x < 2 ^ 64:=by
 rw [irows_len]
 constructor
 ·intro g h
  have:=Dg.mag_len_lt (n:=(x : Int)) (k:=2) (by omega) (by simp only [Dg.B]; omega)
  omega
 ·intro g
  refine Int.not_le.1 fun h => g ?_
  have a:=Dg.val_lt (Dg.magD (x : Int))
  rw [Dg.magV (by omega)] at a
  have b : Dg.B ^ (Dg.mag (x : Int)).length <= Dg.B ^ 2:=by
   rw [pow_B,pow_B]; exact two_pow_le (by omega)
  have c : Dg.B ^ 2 = 18446744073709551616:=by decide
  omega
theorem len_gt0 {x : Nat} : ((irows .u32 (Dg.mag (x : Int))).length : Int) > 0 ↔ 0 < x:=by
 rw [len_pos_mag (Int.natCast_nonneg x)]; omega
theorem gcd_int (gl : List (Nat × AV)) {a b : Int} (ha : Fits a) (hb : Fits b) : Spec Tryz.prog gl 114 [mkZ a,mkZ b] (.tup [mkZ (Int.gcd a b : Int),.int .i64 0]):=by
 have s0:=both_ok gl ha hb
 obtain ⟨G,hG⟩ : ∃ G,G = Int.gcd a b:=⟨_,rfl⟩
 rw [<- hG,mkZ_nn (Int.natCast_nonneg G)]
 have hg0 : Nat.gcd a.natAbs b.natAbs = G:=hG.symm
 have fa:=fits_len ha
 have fb:=fits_len hb
 have fG : ∀ {x : Nat},(Dg.mag (x : Int)).length <= 128 -> Fits (x : Int):=fun h => by unfold Fits; rw [fits_nn (Int.natCast_nonneg _)]; exact h
 have hres : G < 2 ^ 64 -> Spec Tryz.prog gl 63 [.bool false,lim [u32 (G : Int),u32 ((G : Int).fdiv (2 ^ 32))]] (.tup [mkI false (Dg.mag (G : Int)),.int .i64 0]):=by
  intro h
  obtain ⟨hd,hv⟩:=two_limbs (G : Int) (by omega) (by omega)
  have s:=result_spec gl false [u32 (G : Int),u32 ((G : Int).fdiv (2 ^ 32))] (by simp)
  rw [resI_eq _ hd,hv,if_neg (by decide),resZ_ok (fG (by
   have:=Dg.mag_len_lt (n:=(G : Int)) (k:=2) (by omega) (by simp only [Dg.B]; omega)
   omega)),mkZ_nn (Int.natCast_nonneg G)] at s
  exact s
 have hbig : (Dg.mag (G : Int)).length <= 128 -> Spec Tryz.prog gl 63 [.bool false,lim (Dg.mag (G : Int))] (.tup [mkI false (Dg.mag (G : Int)),.int .i64 0]):=by
  intro h
  have s:=result_fit gl (neg:=false) (x:=(G : Int)) (z:=(G : Int)) (Int.natCast_nonneg G) rfl (fG h)
  rwa [mkZ_nn (Int.natCast_nonneg G)] at s
 unfold az at fa fb
 unfold mkZ az at *
 refine spec_fn T_ok mixed_ok 1 Tryz.func114 fn_ok114 (by kernel_rfl) ?_
 first | refine Exists.intro _ (And.intro (s0) ?_) | refine Hn_by (Exists.intro _ (And.intro (s0) ?_))
 repeat (first | refine gT ?_ | refine gF ?_ | refine brT ?_ | refine brF ?_)
 refine And.intro (by kernel_rfl) ?_
 repeat (first | refine gT ?_ | refine gF ?_ | refine brT ?_ | refine brF ?_ | refine And.intro rfl ?_)
 refine aw_loop (fun q : Nat × Nat => stOf [(4,.bp 2 0),(6,lim (Dg.mag (q.1 : Int))),(7,lim (Dg.mag (q.2 : Int)))] [(2,.box [.bool false,.nil])] 3)
  (fun q => Nat.gcd q.1 q.2 = G∧(Dg.mag (q.1 : Int)).length <= 128∧(Dg.mag (q.2 : Int)).length <= 128) (fun q => q.2) (a.natAbs,b.natAbs) ⟨hg0,fa,fb⟩
  (le_by ⟨rfl,rfl,rfl,trivial⟩ ⟨rfl,trivial⟩ (Nat.le_refl _)) ?_
 rintro ⟨x,y⟩ ⟨hg,hxl,hyl⟩ P hP
 simp only at hg hxl hyl
 refine br (fun h2 => ?_) (fun h2 => ?_)
 ·have hy0 : 0 < y:=len_gt0.1 h2
  repeat (first | refine gT ?_ | refine gF ?_ | refine brT ?_ | refine brF ?_ | refine And.intro rfl ?_)
  refine gr (fun h3 => ?_) (fun h3 => ?_)
  ·repeat (first | refine gT ?_ | refine gF ?_ | refine brT ?_ | refine brF ?_ | refine And.intro rfl ?_)
   have dv:=divide_int gl (x:=(x : Int)) (y:=(y : Int)) (Int.natCast_nonneg x) (by omega) (by omega)
   first | refine Exists.intro _ (And.intro (dv) ?_) | refine Hn_by (Exists.intro _ (And.intro (dv) ?_))
   refine hP (y,x % y) _ (le_by ⟨rfl,rfl,rfl,trivial⟩ ⟨rfl,trivial⟩ (Nat.le_refl _)) ⟨?_,hyl,?_⟩ (Nat.mod_lt _ hy0)
   ·rw [<- hg]
    show Nat.gcd y (x % y) = Nat.gcd x y
    rw [Nat.gcd_comm x y,Nat.gcd_rec y x,Nat.gcd_comm]
   ·refine Nat.le_trans (mag_le (Int.natCast_nonneg _) ?_) hyl
    have:=Nat.mod_lt x hy0
    show ((x % y : Nat) : Int) <= (y : Int)
    omega
  ·repeat (first | refine gT ?_ | refine gF ?_ | refine brT ?_ | refine brF ?_ | refine And.intro rfl ?_)
   have hx64 : x < 2 ^ 64:=Decidable.byContradiction fun g => h3 (len_gt2.2 g)
   refine br (fun h4 => ?_) (fun h4 => ?_)
   ·repeat (first | refine gT ?_ | refine gF ?_ | refine brT ?_ | refine brF ?_ | refine And.intro rfl ?_)
    have dv:=divide_int gl (x:=(x : Int)) (y:=(y : Int)) (Int.natCast_nonneg x) (by omega) (by omega)
    first | refine Exists.intro _ (And.intro (dv) ?_) | refine Hn_by (Exists.intro _ (And.intro (dv) ?_))
    refine hP (y,x % y) _ (le_by ⟨rfl,rfl,rfl,trivial⟩ ⟨rfl,trivial⟩ (Nat.le_refl _)) ⟨?_,hyl,?_⟩ (Nat.mod_lt _ hy0)
    ·rw [<- hg]
     show Nat.gcd y (x % y) = Nat.gcd x y
     rw [Nat.gcd_comm x y,Nat.gcd_rec y x,Nat.gcd_comm]
    ·refine Nat.le_trans (mag_le (Int.natCast_nonneg _) ?_) hyl
     have:=Nat.mod_lt x hy0
     show ((x % y : Nat) : Int) <= (y : Int)
     omega
   ·clear hP
    have hy64 : y < 2 ^ 64:=Decidable.byContradiction fun g => h4 (len_gt2.2 g)
    refine br (fun g => absurd g h3) (fun _ => ?_)
    have wx:=word_spec gl (Dg.magD (x : Int)) (by have:=Dg.mag_len_lt (n:=(x : Int)) (k:=2) (by omega) (by simp only [Dg.B]; omega); exact this)
    have wy:=word_spec gl (Dg.magD (y : Int)) (by have:=Dg.mag_len_lt (n:=(y : Int)) (k:=2) (by omega) (by simp only [Dg.B]; omega); exact this)
    rw [Dg.magV (Int.natCast_nonneg x)] at wx
    rw [Dg.magV (Int.natCast_nonneg y)] at wy
    first | refine Exists.intro _ (And.intro (wx) ?_) | refine Hn_by (Exists.intro _ (And.intro (wx) ?_))
    first | refine Exists.intro _ (And.intro (wy) ?_) | refine Hn_by (Exists.intro _ (And.intro (wy) ?_))
    refine aw_loop (fun q : Nat × Nat => stOf [(4,.bp 2 0),(10,.int .u64 (q.1 : Int)),(11,.int .u64 (q.2 : Int))] [(2,.box [.bool false,.nil])] 3)
     (fun q => q.1 < 2 ^ 64∧q.2 < 2 ^ 64∧Nat.gcd q.1 q.2 = G) (fun q => q.2) (x,y) ⟨hx64,hy64,hg⟩
     (le_by ⟨rfl,rfl,rfl,trivial⟩ ⟨rfl,trivial⟩ (Nat.le_refl _)) ?_
    rintro ⟨n,m⟩ ⟨hn64,hm64,hnm⟩ P' hP'
    simp only at hn64 hm64 hnm
    refine br (fun h5 => ?_) (fun h5 => ?_)
    ·have h5' : 0 < m:=by have : (m : Int) > 0:=h5; omega
     refine And.intro (by kernel_rfl) ?_
     repeat (first | refine gT ?_ | refine gF ?_ | refine brT ?_ | refine brF ?_ | refine And.intro rfl ?_)
     refine And.intro (show (m : Int) ≠ 0 by omega) ?_
     repeat (first | refine gT ?_ | refine gF ?_ | refine brT ?_ | refine brF ?_ | refine And.intro rfl ?_)
     refine hP' (m,n % m) _ (le_by ⟨rfl,rfl,int_eq (show Int.tmod (n : Int) (m : Int) = ((n % m : Nat) : Int) by rw [Int.ofNat_tmod]),trivial⟩ ⟨rfl,trivial⟩ (Nat.le_refl _)) ⟨hm64,Nat.lt_trans (Nat.mod_lt _ h5') hm64,?_⟩ (Nat.mod_lt _ h5')
     rw [<- hnm]
     show Nat.gcd m (n % m) = Nat.gcd n m
     rw [Nat.gcd_comm n m,Nat.gcd_rec m n,Nat.gcd_comm]
    ·clear hP'
     have h5' : m = 0:=by have : ¬ (m : Int) > 0:=h5; omega
     subst h5'
     have hG : n = G:=by rw [<- hnm,Nat.gcd_zero_right]
     subst hG
     refine And.intro (by decide) ?_
     refine Hn_by (And.intro (Nat.le_refl 2) (Exists.intro _ (And.intro (hres hn64) ?_)))
     exact And.intro (Or.inr rfl) rfl
 ·clear hP
  repeat (first | refine gT ?_ | refine gF ?_ | refine brT ?_ | refine brF ?_ | refine And.intro rfl ?_)
  have hy0 : y = 0:=Decidable.byContradiction fun g => h2 (len_gt0.2 (by omega))
  by_cases hx64 : x < 2 ^ 64
  ·have hx' : ¬ ((irows .u32 (Dg.mag (x : Int))).length : Int) > 2:=fun g => len_gt2.1 g hx64
   have hy64 : y < 2 ^ 64:=by omega
   refine br (fun g => absurd g hx') (fun _ => ?_)
   have wx:=word_spec gl (Dg.magD (x : Int)) (by have:=Dg.mag_len_lt (n:=(x : Int)) (k:=2) (by omega) (by simp only [Dg.B]; omega); exact this)
   have wy:=word_spec gl (Dg.magD (y : Int)) (by have:=Dg.mag_len_lt (n:=(y : Int)) (k:=2) (by omega) (by simp only [Dg.B]; omega); exact this)
   rw [Dg.magV (Int.natCast_nonneg x)] at wx
   rw [Dg.magV (Int.natCast_nonneg y)] at wy
   first | refine Exists.intro _ (And.intro (wx) ?_) | refine Hn_by (Exists.intro _ (And.intro (wx) ?_))
   first | refine Exists.intro _ (And.intro (wy) ?_) | refine Hn_by (Exists.intro _ (And.intro (wy) ?_))
   refine aw_loop (fun q : Nat × Nat => stOf [(4,.bp 2 0),(10,.int .u64 (q.1 : Int)),(11,.int .u64 (q.2 : Int))] [(2,.box [.bool false,.nil])] 3)
    (fun q => q.1 < 2 ^ 64∧q.2 < 2 ^ 64∧Nat.gcd q.1 q.2 = G) (fun q => q.2) (x,y) ⟨hx64,hy64,hg⟩
    (le_by ⟨rfl,rfl,rfl,trivial⟩ ⟨rfl,trivial⟩ (Nat.le_refl _)) ?_
   rintro ⟨n,m⟩ ⟨hn64,hm64,hnm⟩ P' hP'
   simp only at hn64 hm64 hnm
   refine br (fun h5 => ?_) (fun h5 => ?_)
   ·have h5' : 0 < m:=by have : (m : Int) > 0:=h5; omega
    refine And.intro (by kernel_rfl) ?_
    repeat (first | refine gT ?_ | refine gF ?_ | refine brT ?_ | refine brF ?_ | refine And.intro rfl ?_)
    refine And.intro (show (m : Int) ≠ 0 by omega) ?_
    repeat (first | refine gT ?_ | refine gF ?_ | refine brT ?_ | refine brF ?_ | refine And.intro rfl ?_)
    refine hP' (m,n % m) _ (le_by ⟨rfl,rfl,int_eq (show Int.tmod (n : Int) (m : Int) = ((n % m : Nat) : Int) by rw [Int.ofNat_tmod]),trivial⟩ ⟨rfl,trivial⟩ (Nat.le_refl _)) ⟨hm64,Nat.lt_trans (Nat.mod_lt _ h5') hm64,?_⟩ (Nat.mod_lt _ h5')
    rw [<- hnm]
    show Nat.gcd m (n % m) = Nat.gcd n m
    rw [Nat.gcd_comm n m,Nat.gcd_rec m n,Nat.gcd_comm]
   ·clear hP'
    have h5' : m = 0:=by have : ¬ (m : Int) > 0:=h5; omega
    subst h5'
    have hG : n = G:=by rw [<- hnm,Nat.gcd_zero_right]
    subst hG
    refine And.intro (by decide) ?_
    refine Hn_by (And.intro (Nat.le_refl 2) (Exists.intro _ (And.intro (hres hn64) ?_)))
    exact And.intro (Or.inr rfl) rfl
  ·have hx' : ((irows .u32 (Dg.mag (x : Int))).length : Int) > 2:=len_gt2.2 hx64
   have hxG : x = G:=by rw [<- hg,hy0,Nat.gcd_zero_right]
   subst hxG
   refine br (fun _ => ?_) (fun g => absurd hx' g)
   first | refine Exists.intro _ (And.intro (hbig hxl) ?_) | refine Hn_by (Exists.intro _ (And.intro (hbig hxl) ?_))
   exact And.intro (Or.inr rfl) rfl
end Ab
end
