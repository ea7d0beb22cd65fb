import Derived.Test.YtpjjbhhoagocjaaGreatDoorXDivs
import Derived.Test.YtpjjbhhoagocjaaGreatDoorXDerP
import Derived.Test.YtpjjbhhoagocjaaGreatDoorXIdeal
import Derived.Test.YtpjjbhhoagocjaaGreatDoorXGug
section
open Go Go.Proofs
namespace Ab
set_option maxRecDepth 100000
set_option maxHeartbeats 1000000
def BV (a : Nat) (v : Rat) : Prop:=∃ d N,d <= 2 ^ a∧N <= 2 ^ a∧Bd d N v
theorem BV.mono {a b : Nat} {v : Rat} (h : BV a v) (hl : a <= b) : BV b v:=by
 obtain ⟨d,N,h1,h2,h3⟩:=h
 have:=Nat.pow_le_pow_right (show 0 < 2 by decide) hl
 exact ⟨d,N,by omega,by omega,h3⟩
theorem BV.mul {a b : Nat} {x y : Rat} (hx : BV a x) (hy : BV b y) : BV (a + b) (x * y):=by
 obtain ⟨d,N,h1,h2,h3⟩:=hx
 obtain ⟨e,M,h4,h5,h6⟩:=hy
 refine ⟨d * e,N * M,?_,?_,h3.mul h6⟩
 ·rw [Nat.pow_add]; exact Nat.mul_le_mul h1 h4
 ·rw [Nat.pow_add]; exact Nat.mul_le_mul h2 h5
theorem SB.at {a : Nat} {p : List Rat} (h : SB a p) (i : Nat) : BV a (cf p i):=by
 obtain ⟨d,N,h1,h2,h3⟩:=h
 exact ⟨d,N,h1,h2,h3 i⟩
theorem BV.fm {a b : Nat} {x y : Rat} (hx : BV a x) (hy : BV b y) (h : a + b <= 3990) : FM x y:=by
 obtain ⟨d,N,h1,h2,h3⟩:=hx
 obtain ⟨e,M,h4,h5,h6⟩:=hy
 have:=two_two a
 have:=two_two b
 exact bd_fm h3 h6 (sz_two (a:=a + 1) (b:=b + 1) (by omega) (by omega) (by omega))
theorem BV.fs0 {a : Nat} {x : Rat} (hx : BV a x) (h : a <= 3990) : FS 0 x:=by
 obtain ⟨d,N,h1,h2,h3⟩:=hx
 have:=two_two a
 exact bd_fs (bd_zero (d:=1) (N:=0) (by decide)) h3 (sz_two (a:=1) (b:=a + 1) (by decide) (by omega) (by omega))
theorem BV.rf {a : Nat} {x : Rat} (hx : BV a x) (h : a <= 3990) : RF x:=by
 obtain ⟨d,N,h1,h2,h3⟩:=hx
 have:=two_two a
 have:=sz_pow (a:=a + 1) (by omega)
 exact h3.rf (by omega)
theorem BV.neg {a : Nat} {x : Rat} (hx : BV a x) : BV a (0 - x):=by
 obtain ⟨d,N,h1,h2,h3⟩:=hx
 refine ⟨d,N,h1,h2,?_⟩
 have:=(bd_zero (d:=d) (N:=0) h3.1).sub h3
 rw [Nat.zero_add] at this
 exact this
theorem bv_one : BV 0 1:=⟨1,1,by decide,by decide,bd_int (n:=1) (by decide)⟩
theorem bv_zero : BV 0 0:=⟨1,0,by decide,by decide,bd_zero (by decide)⟩
theorem rpow_bv {a : Nat} {c : Rat} (h : BV a c) : ∀ n,BV (a * n) (rpow c n)
 | 0 => bv_one
 | n + 1 => (rpow_bv h n).mul h
theorem rpow_fm {a n : Nat} {c : Rat} (h : BV a c) (hn : a * n <= 1990) : ∀ i,i < n -> FM (rpow c i) c:=fun i hi => by
 refine (rpow_bv h i).fm h ?_
 have h1 : a * (i + 1) <= a * n:=Nat.mul_le_mul_left _ hi
 rw [Nat.mul_succ] at h1
 omega
def mxF (f : Nat -> Nat) : Nat -> Nat
 | 0 => 0
 | n + 1 => max (mxF f n) (f n)
theorem mxF_le {f : Nat -> Nat} : ∀ {n i : Nat},i < n -> f i <= mxF f n
 | n + 1,i,h => by
  unfold mxF
  by_cases e : i = n
  ·subst e; exact Nat.le_max_right _ _
  ·have:=mxF_le (f:=f) (n:=n) (i:=i) (by omega)
   omega
def rb : Nat -> Nat -> Nat -> Nat -> Nat -> Nat
 | 0,_,_,_,_ => 5000
 | n + 1,lp,lq,a,b => if lq <= 1 then b * (lp - 1) else if lp < lq then rb n lq lp b a else if 2000 < 1 + a + (lp + 1 - lq) * (b + 1) then 5000 else
   mxF (fun l => if l = 0 then 0 else b * (lp - l) + rb n lq l b (a + (lp + 1 - lq) * (b + 1))) lq
theorem sgn_ex {m n a : Nat} {w : Rat} (h : BV a w) (ha : a <= 1990) : ∃ v,SgnR m n w v∧BV a v:=by
 unfold SgnR
 by_cases e : m % 2 = 1∧n % 2 = 1
 ·refine ⟨0 - w,?_,h.neg⟩
  rw [if_pos e]
  exact ⟨h.fs0 (by omega),rfl⟩
 ·refine ⟨w,?_,h⟩
  rw [if_neg e]
theorem res_ex : ∀ n {p q : List Rat} {a b : Nat},rb n p.length q.length a b <= 1990 -> SB a p -> SB b q -> Lst p -> Lst q -> 0 < p.length -> 0 < q.length -> p.length <= 65 -> q.length <= 65 -> ∃ v,ResR p q v∧BV (rb n p.length q.length a b) v
 | 0,p,q,a,b,h,_,_,_,_,_,_,_,_ => by
  exfalso
  unfold rb at h
  omega
 | n + 1,p,q,a,b,h,sp,sq,tp,tq,p0,q0,lp,lq => by
  unfold rb at h ⊢
  by_cases h1 : q.length <= 1
  ·rw [if_pos h1] at h ⊢
   have e1 : q.length = 1:=by omega
   exact ⟨_,.const p0 lp e1 (rpow_fm (sq.at 0) h),rpow_bv (sq.at 0) _⟩
  ·rw [if_neg h1] at h ⊢
   by_cases h2 : p.length < q.length
   ·rw [if_pos h2] at h ⊢
    obtain ⟨w,hw,bw⟩:=res_ex n h sq sp tq tp q0 p0 lq lp
    obtain ⟨v,hv,bv⟩:=sgn_ex (m:=p.length - 1) (n:=q.length - 1) bw h
    exact ⟨v,.swap p0 h2 (by omega) lq hw hv,bv⟩
   ·rw [if_neg h2] at h ⊢
    by_cases h3 : 2000 < 1 + a + (p.length + 1 - q.length) * (b + 1)
    ·rw [if_pos h3] at h; omega
    ·rw [if_neg h3] at h ⊢
     obtain ⟨A,R,dR,hid,hrl,tR,sR⟩:=div_ex sp sq tp tq lp q0 (by omega)
     by_cases r0 : R.length = 0
     ·have : R = []:=List.eq_nil_of_length_eq_zero r0
      subst this
      exact ⟨0,.zero (by omega) (by omega) lp dR,bv_zero.mono (Nat.zero_le _)⟩
     ·have hm:=mxF_le (f:=fun l => if l = 0 then 0 else b * (p.length - l) + rb n q.length l b (a + (p.length + 1 - q.length) * (b + 1))) hrl
      rw [if_neg r0] at hm
      obtain ⟨w,hw,bw⟩:=res_ex n (by omega) sq sR tq tR q0 (by omega) lq (by omega)
      have ek : p.length - 1 - R.length + 1 = p.length - R.length:=by omega
      have bc:=rpow_bv (sq.at (q.length - 1)) (p.length - R.length)
      have bm:=(bc.mul bw).mono (show _ <= 1990 by omega)
      obtain ⟨v,hv,bv⟩:=sgn_ex (m:=p.length - 1) (n:=q.length - 1) (bc.mul bw) (by omega)
      refine ⟨v,.step (w:=w) (by omega) (by omega) lp dR (by omega) hrl ?_ hw ?_ ?_,bv.mono hm⟩
      ·rw [ek]; exact rpow_fm (sq.at _) (by omega)
      ·rw [ek]; exact bc.fm bw (by omega)
      ·rw [ek]; exact hv
theorem rb_abc : ∀ lp,lp < 8 -> ∀ lq,lq < 5 -> 0 < lp -> 0 < lq -> rb 12 lp lq 14 6 <= 1100:=by decide +kernel
theorem rb_ac : ∀ lp,lp < 5 -> ∀ lq,lq < 5 -> 0 < lp -> 0 < lq -> rb 12 lp lq 6 6 <= 1100:=by decide +kernel
theorem rb_lin : ∀ lp,lp < 6 -> ∀ lq,lq < 6 -> 0 < lp -> 0 < lq -> rb 12 lp lq 14 14 <= 1100:=by decide +kernel
end Ab
end
section
namespace Ab
structure V2 where
 a : Rat
 b : Rat
theorem V2.eq {u w : V2} (h1 : u.a = w.a) (h2 : u.b = w.b) : u = w:=by cases u; cases w; simp_all
section
variable (t0 t1 : Rat)
def mx2 (e : V2) : V2:=⟨-(t0 * e.b),e.a - t1 * e.b⟩
def ev2 : Nat -> (Nat -> Rat) -> V2
 | 0,_ => ⟨0,0⟩
 | n + 1,f => ⟨(mx2 t0 t1 (ev2 n (shf f))).a + f 0,(mx2 t0 t1 (ev2 n (shf f))).b⟩
def m2 (u w : V2) : V2:=⟨u.a * w.a + u.b * (mx2 t0 t1 w).a,u.a * w.b + u.b * (mx2 t0 t1 w).b⟩
def N2 (u : V2) : Rat:=u.a * (mx2 t0 t1 u).b - u.b * (mx2 t0 t1 u).a
theorem ev2_zero : ∀ n {f : Nat -> Rat},(∀ i,f i = 0) -> ev2 t0 t1 n f = ⟨0,0⟩
 | 0,_,_ => rfl
 | n + 1,f,h => by
  show (⟨_,_⟩ : V2) = _
  rw [ev2_zero n (f:=shf f) fun i => h (i + 1),h 0]
  apply V2.eq
  ·show -(t0 * 0) + 0 = 0; grind
  ·show (0 : Rat) - t1 * 0 = 0; grind
theorem ev2_more : ∀ {n m : Nat} {f : Nat -> Rat},n <= m -> (∀ i,n <= i -> f i = 0) -> ev2 t0 t1 m f = ev2 t0 t1 n f
 | 0,m,f,_,h => by rw [ev2_zero t0 t1 m fun i => h i (Nat.zero_le _)]; rfl
 | n + 1,0,f,h,_ => by omega
 | n + 1,m + 1,f,h,hz => by
  show (⟨_,_⟩ : V2) = ⟨_,_⟩
  rw [ev2_more (n:=n) (m:=m) (f:=shf f) (by omega) fun i hi => hz (i + 1) (by omega)]
theorem ev2_add : ∀ n (f g : Nat -> Rat),ev2 t0 t1 n (fun i => f i + g i) = ⟨(ev2 t0 t1 n f).a + (ev2 t0 t1 n g).a,(ev2 t0 t1 n f).b + (ev2 t0 t1 n g).b⟩
 | 0,_,_ => by apply V2.eq <;> exact (Rat.add_zero 0).symm
 | n + 1,f,g => by
  have e:=ev2_add n (shf f) (shf g)
  have e' : ev2 t0 t1 n (shf fun i => f i + g i) = _:=e
  apply V2.eq
  ·show (mx2 t0 t1 (ev2 t0 t1 n (shf fun i => f i + g i))).a + (f 0 + g 0) = _
   rw [e']
   show -(t0 * _) + (f 0 + g 0) = (-(t0 * _) + f 0) + (-(t0 * _) + g 0)
   grind
  ·show (mx2 t0 t1 (ev2 t0 t1 n (shf fun i => f i + g i))).b = _
   rw [e']
   show (_ + _) - t1 * (_ + _) = (_ - t1 * _) + (_ - t1 * _)
   grind
theorem ev2_scale : ∀ n (c : Rat) (f : Nat -> Rat),ev2 t0 t1 n (fun i => c * f i) = ⟨c * (ev2 t0 t1 n f).a,c * (ev2 t0 t1 n f).b⟩
 | 0,_,_ => by apply V2.eq <;> exact (Rat.mul_zero _).symm
 | n + 1,c,f => by
  have e' : ev2 t0 t1 n (shf fun i => c * f i) = _:=ev2_scale n c (shf f)
  apply V2.eq
  ·show (mx2 t0 t1 (ev2 t0 t1 n (shf fun i => c * f i))).a + c * f 0 = _
   rw [e']
   show -(t0 * _) + c * f 0 = c * (-(t0 * _) + f 0)
   grind
  ·show (mx2 t0 t1 (ev2 t0 t1 n (shf fun i => c * f i))).b = _
   rw [e']
   show _ - t1 * _ = c * (_ - t1 * _)
   grind
theorem ev2_cnv {g : Nat -> Rat} {m : Nat} (hg : ∀ i,m <= i -> g i = 0) : ∀ {n : Nat} {f : Nat -> Rat} {N : Nat},(∀ i,n <= i -> f i = 0) -> n + m <= N -> ev2 t0 t1 N (cnv f g) = m2 t0 t1 (ev2 t0 t1 n f) (ev2 t0 t1 m g)
 | 0,f,N,hf,_ => by
  rw [ev2_zero t0 t1 N (f:=cnv f g) fun i => psum_zero fun j _ => by rw [hf j (Nat.zero_le _),Rat.zero_mul]]
  apply V2.eq
  ·show (0 : Rat) = 0 * _ + 0 * _; grind
  ·show (0 : Rat) = 0 * _ + 0 * _; grind
 | n + 1,f,N,hf,hN => by
  obtain ⟨N',rfl⟩ : ∃ N',N = N' + 1:=⟨N - 1,by omega⟩
  have e : shf (cnv f g) = fun i => f 0 * shf g i + cnv (shf f) g i:=funext fun i => cnv_front f g i
  have ih:=ev2_cnv hg (n:=n) (f:=shf f) (N:=N') (fun i hi => hf (i + 1) (by omega)) (by omega)
  have eg:=ev2_more t0 t1 (n:=m) (m:=N' + 1) (f:=g) (by omega) hg
  rw [<- eg]
  have e2 : ev2 t0 t1 N' (shf (cnv f g)) = ⟨f 0 * (ev2 t0 t1 N' (shf g)).a + (m2 t0 t1 (ev2 t0 t1 n (shf f)) (ev2 t0 t1 (N' + 1) g)).a,f 0 * (ev2 t0 t1 N' (shf g)).b + (m2 t0 t1 (ev2 t0 t1 n (shf f)) (ev2 t0 t1 (N' + 1) g)).b⟩:=by rw [e,ev2_add t0 t1 N' (fun i => f 0 * shf g i) (cnv (shf f) g),ev2_scale,ih,<- eg]
  have e3 : ∀ f,ev2 t0 t1 (N' + 1) f = ⟨(mx2 t0 t1 (ev2 t0 t1 N' (shf f))).a + f 0,(mx2 t0 t1 (ev2 t0 t1 N' (shf f))).b⟩:=fun _ => rfl
  have e4 : ev2 t0 t1 (n + 1) f = ⟨(mx2 t0 t1 (ev2 t0 t1 n (shf f))).a + f 0,(mx2 t0 t1 (ev2 t0 t1 n (shf f))).b⟩:=rfl
  rw [e3 (cnv f g),e2,e4,e3 g,cnv_zero]
  generalize ev2 t0 t1 N' (shf g) = G
  generalize ev2 t0 t1 n (shf f) = F
  apply V2.eq
  ·simp only [m2,mx2]; grind
  ·simp only [m2,mx2]; grind
theorem N2_mul (u w : V2) : N2 t0 t1 (m2 t0 t1 u w) = N2 t0 t1 u * N2 t0 t1 w:=by
 simp only [N2,m2,mx2]; grind
end
structure V3 where
 a : Rat
 b : Rat
 c : Rat
theorem V3.eq {u w : V3} (h1 : u.a = w.a) (h2 : u.b = w.b) (h3 : u.c = w.c) : u = w:=by cases u; cases w; simp_all
def det3 (u v w : V3) : Rat:=u.a * (v.b * w.c - v.c * w.b) - u.b * (v.a * w.c - v.c * w.a) + u.c * (v.a * w.b - v.b * w.a)
def lin3 (e u v w : V3) : V3:=⟨e.a * u.a + e.b * v.a + e.c * w.a,e.a * u.b + e.b * v.b + e.c * w.b,e.a * u.c + e.b * v.c + e.c * w.c⟩
theorem det3_mul (p q r u v w : V3) : det3 (lin3 p u v w) (lin3 q u v w) (lin3 r u v w) = det3 p q r * det3 u v w:=by
 simp only [det3,lin3]; grind
section
variable (t0 t1 t2 : Rat)
def mx3 (e : V3) : V3:=⟨-(t0 * e.c),e.a - t1 * e.c,e.b - t2 * e.c⟩
def ev3 : Nat -> (Nat -> Rat) -> V3
 | 0,_ => ⟨0,0,0⟩
 | n + 1,f => ⟨(mx3 t0 t1 t2 (ev3 n (shf f))).a + f 0,(mx3 t0 t1 t2 (ev3 n (shf f))).b,(mx3 t0 t1 t2 (ev3 n (shf f))).c⟩
def m3 (u w : V3) : V3:=lin3 u w (mx3 t0 t1 t2 w) (mx3 t0 t1 t2 (mx3 t0 t1 t2 w))
def N3 (u : V3) : Rat:=det3 u (mx3 t0 t1 t2 u) (mx3 t0 t1 t2 (mx3 t0 t1 t2 u))
theorem mx_m3 (u w : V3) : mx3 t0 t1 t2 (m3 t0 t1 t2 u w) = m3 t0 t1 t2 (mx3 t0 t1 t2 u) w:=by
 apply V3.eq
 ·simp only [m3,mx3,lin3]; grind
 ·simp only [m3,mx3,lin3]; grind
 ·simp only [m3,mx3,lin3]; grind
theorem N3_mul (u w : V3) : N3 t0 t1 t2 (m3 t0 t1 t2 u w) = N3 t0 t1 t2 u * N3 t0 t1 t2 w:=by
 unfold N3
 rw [mx_m3,mx_m3]
 exact det3_mul ..
theorem ev3_zero : ∀ n {f : Nat -> Rat},(∀ i,f i = 0) -> ev3 t0 t1 t2 n f = ⟨0,0,0⟩
 | 0,_,_ => rfl
 | n + 1,f,h => by
  show (⟨_,_,_⟩ : V3) = _
  rw [ev3_zero n (f:=shf f) fun i => h (i + 1),h 0]
  apply V3.eq
  ·show -(t0 * 0) + 0 = 0; grind
  ·show (0 : Rat) - t1 * 0 = 0; grind
  ·show (0 : Rat) - t2 * 0 = 0; grind
theorem ev3_more : ∀ {n m : Nat} {f : Nat -> Rat},n <= m -> (∀ i,n <= i -> f i = 0) -> ev3 t0 t1 t2 m f = ev3 t0 t1 t2 n f
 | 0,m,f,_,h => by rw [ev3_zero t0 t1 t2 m fun i => h i (Nat.zero_le _)]; rfl
 | n + 1,0,f,h,_ => by omega
 | n + 1,m + 1,f,h,hz => by
  show (⟨_,_,_⟩ : V3) = ⟨_,_,_⟩
  rw [ev3_more (n:=n) (m:=m) (f:=shf f) (by omega) fun i hi => hz (i + 1) (by omega)]
theorem ev3_add : ∀ n (f g : Nat -> Rat),ev3 t0 t1 t2 n (fun i => f i + g i) = ⟨(ev3 t0 t1 t2 n f).a + (ev3 t0 t1 t2 n g).a,(ev3 t0 t1 t2 n f).b + (ev3 t0 t1 t2 n g).b,(ev3 t0 t1 t2 n f).c + (ev3 t0 t1 t2 n g).c⟩
 | 0,_,_ => by apply V3.eq <;> exact (Rat.add_zero 0).symm
 | n + 1,f,g => by
  have e' : ev3 t0 t1 t2 n (shf fun i => f i + g i) = _:=ev3_add n (shf f) (shf g)
  apply V3.eq
  ·show (mx3 t0 t1 t2 (ev3 t0 t1 t2 n (shf fun i => f i + g i))).a + (f 0 + g 0) = _
   rw [e']
   show -(t0 * _) + (f 0 + g 0) = (-(t0 * _) + f 0) + (-(t0 * _) + g 0)
   grind
  ·show (mx3 t0 t1 t2 (ev3 t0 t1 t2 n (shf fun i => f i + g i))).b = _
   rw [e']
   show (_ + _) - t1 * (_ + _) = (_ - t1 * _) + (_ - t1 * _)
   grind
  ·show (mx3 t0 t1 t2 (ev3 t0 t1 t2 n (shf fun i => f i + g i))).c = _
   rw [e']
   show (_ + _) - t2 * (_ + _) = (_ - t2 * _) + (_ - t2 * _)
   grind
theorem ev3_scale : ∀ n (c : Rat) (f : Nat -> Rat),ev3 t0 t1 t2 n (fun i => c * f i) = ⟨c * (ev3 t0 t1 t2 n f).a,c * (ev3 t0 t1 t2 n f).b,c * (ev3 t0 t1 t2 n f).c⟩
 | 0,_,_ => by apply V3.eq <;> exact (Rat.mul_zero _).symm
 | n + 1,c,f => by
  have e' : ev3 t0 t1 t2 n (shf fun i => c * f i) = _:=ev3_scale n c (shf f)
  apply V3.eq
  ·show (mx3 t0 t1 t2 (ev3 t0 t1 t2 n (shf fun i => c * f i))).a + c * f 0 = _
   rw [e']
   show -(t0 * _) + c * f 0 = c * (-(t0 * _) + f 0)
   grind
  ·show (mx3 t0 t1 t2 (ev3 t0 t1 t2 n (shf fun i => c * f i))).b = _
   rw [e']
   show _ - t1 * _ = c * (_ - t1 * _)
   grind
  ·show (mx3 t0 t1 t2 (ev3 t0 t1 t2 n (shf fun i => c * f i))).c = _
   rw [e']
   show _ - t2 * _ = c * (_ - t2 * _)
   grind
theorem ev3_cnv {g : Nat -> Rat} {m : Nat} (hg : ∀ i,m <= i -> g i = 0) : ∀ {n : Nat} {f : Nat -> Rat} {N : Nat},(∀ i,n <= i -> f i = 0) -> n + m <= N -> ev3 t0 t1 t2 N (cnv f g) = m3 t0 t1 t2 (ev3 t0 t1 t2 n f) (ev3 t0 t1 t2 m g)
 | 0,f,N,hf,_ => by
  rw [ev3_zero t0 t1 t2 N (f:=cnv f g) fun i => psum_zero fun j _ => by rw [hf j (Nat.zero_le _),Rat.zero_mul]]
  apply V3.eq
  ·show (0 : Rat) = 0 * _ + 0 * _ + 0 * _; grind
  ·show (0 : Rat) = 0 * _ + 0 * _ + 0 * _; grind
  ·show (0 : Rat) = 0 * _ + 0 * _ + 0 * _; grind
 | n + 1,f,N,hf,hN => by
  obtain ⟨N',rfl⟩ : ∃ N',N = N' + 1:=⟨N - 1,by omega⟩
  have e : shf (cnv f g) = fun i => f 0 * shf g i + cnv (shf f) g i:=funext fun i => cnv_front f g i
  have ih:=ev3_cnv hg (n:=n) (f:=shf f) (N:=N') (fun i hi => hf (i + 1) (by omega)) (by omega)
  have eg:=ev3_more t0 t1 t2 (n:=m) (m:=N' + 1) (f:=g) (by omega) hg
  rw [<- eg]
  have e2 : ev3 t0 t1 t2 N' (shf (cnv f g)) = ⟨f 0 * (ev3 t0 t1 t2 N' (shf g)).a + (m3 t0 t1 t2 (ev3 t0 t1 t2 n (shf f)) (ev3 t0 t1 t2 (N' + 1) g)).a,f 0 * (ev3 t0 t1 t2 N' (shf g)).b + (m3 t0 t1 t2 (ev3 t0 t1 t2 n (shf f)) (ev3 t0 t1 t2 (N' + 1) g)).b,f 0 * (ev3 t0 t1 t2 N' (shf g)).c + (m3 t0 t1 t2 (ev3 t0 t1 t2 n (shf f)) (ev3 t0 t1 t2 (N' + 1) g)).c⟩:=by rw [e,ev3_add t0 t1 t2 N' (fun i => f 0 * shf g i) (cnv (shf f) g),ev3_scale,ih,<- eg]
  have e3 : ∀ f,ev3 t0 t1 t2 (N' + 1) f = ⟨(mx3 t0 t1 t2 (ev3 t0 t1 t2 N' (shf f))).a + f 0,(mx3 t0 t1 t2 (ev3 t0 t1 t2 N' (shf f))).b,(mx3 t0 t1 t2 (ev3 t0 t1 t2 N' (shf f))).c⟩:=fun _ => rfl
  have e4 : ev3 t0 t1 t2 (n + 1) f = ⟨(mx3 t0 t1 t2 (ev3 t0 t1 t2 n (shf f))).a + f 0,(mx3 t0 t1 t2 (ev3 t0 t1 t2 n (shf f))).b,(mx3 t0 t1 t2 (ev3 t0 t1 t2 n (shf f))).c⟩:=rfl
  rw [e3 (cnv f g),e2,e4,e3 g,cnv_zero]
  generalize ev3 t0 t1 t2 N' (shf g) = G
  generalize ev3 t0 t1 t2 n (shf f) = F
  apply V3.eq
  ·simp only [m3,mx3,lin3]; grind
  ·simp only [m3,mx3,lin3]; grind
  ·simp only [m3,mx3,lin3]; grind
end
end Ab
end
section
open Go Go.Proofs
namespace Ab
set_option maxRecDepth 100000
set_option maxHeartbeats 1000000
def sgM (m n : Nat) : Rat:=if m % 2 = 1∧n % 2 = 1 then -1 else 1
theorem sgn_eq {m n : Nat} {w v : Rat} (h : SgnR m n w v) : v = sgM m n * w:=by
 unfold SgnR at h
 unfold sgM
 by_cases e : m % 2 = 1∧n % 2 = 1
 ·rw [if_pos e] at h ⊢
  rw [h.2]; grind
 ·rw [if_neg e] at h ⊢
  rw [h]; grind
theorem sg_add (a b n : Nat) : sgM (a + b) n = sgM a n * sgM b n:=by
 unfold sgM
 by_cases hn : n % 2 = 1
 ·by_cases ha : a % 2 = 1
  ·by_cases hb : b % 2 = 1
   ·rw [if_neg (by omega),if_pos ⟨ha,hn⟩,if_pos ⟨hb,hn⟩]; grind
   ·rw [if_pos (by omega),if_pos ⟨ha,hn⟩,if_neg (by omega)]; grind
  ·by_cases hb : b % 2 = 1
   ·rw [if_pos (by omega),if_neg (by omega),if_pos ⟨hb,hn⟩]; grind
   ·rw [if_neg (by omega),if_neg (by omega),if_neg (by omega)]; grind
 ·rw [if_neg (by omega),if_neg (by omega),if_neg (by omega)]; grind
theorem sg_ne (m n : Nat) : sgM m n ≠ 0:=by
 unfold sgM
 split <;> decide
theorem rpow_add (c : Rat) (a : Nat) : ∀ b,rpow c (a + b) = rpow c a * rpow c b
 | 0 => (Rat.mul_one _).symm
 | b + 1 => by
  show rpow c (a + b) * c = rpow c a * (rpow c b * c)
  rw [rpow_add c a b,Rat.mul_assoc]
theorem rpow_ne {c : Rat} (h : c ≠ 0) : ∀ n,rpow c n ≠ 0
 | 0 => by show (1 : Rat) ≠ 0; decide
 | n + 1 => fun e => by
  rcases Rat.mul_eq_zero.1 (show rpow c n * c = 0 from e) with e | e
  ·exact rpow_ne h n e
  ·exact h e
theorem rpow_one : ∀ n,rpow 1 n = 1
 | 0 => rfl
 | n + 1 => by show rpow 1 n * 1 = 1; rw [rpow_one n,Rat.mul_one]
theorem divR_id {p q a r : List Rat} (h : DivR p q a r) (hl : q.length <= p.length) (h0 : 0 < q.length) (tq : Lst q) : Lst r∧(∀ k,cf p k = cnv (cf a) (cf q) k + cf r k):=by
 cases h with
 | short h2 => omega
 | long _ _ =>
  refine ⟨clip_lst _,fun k => ?_⟩
  rw [cf_clip]
  exact div_id h0 hl (lst_at tq (by omega)) k
theorem vl_congr {x : Rat} {p q : List Rat} (h : ∀ k,cf p k = cf q k) : vl x p = vl x q:=by
 rw [vl_hv x p (N:=p.length + q.length) (by omega),vl_hv x q (N:=p.length + q.length) (by omega),show cf p = cf q from funext h]
theorem vl_id {x : Rat} {p q a r : List Rat} (h : ∀ k,cf p k = cnv (cf a) (cf q) k + cf r k) : vl x p = vl x a * vl x q + vl x r:=by
 rw [<- vl_mul,<- vl_add]
 exact vl_congr fun k => by rw [h,cf_addP,cf_mulP]
def nm : List Rat -> List Rat -> Rat
 | [_],_ => 1
 | [c0,c1],p => vl (-(c0 / c1)) p
 | [c0,c1,c2],p => N2 (c0 / c2) (c1 / c2) (ev2 (c0 / c2) (c1 / c2) p.length (cf p))
 | [c0,c1,c2,c3],p => N3 (c0 / c3) (c1 / c3) (c2 / c3) (ev3 (c0 / c3) (c1 / c3) (c2 / c3) p.length (cf p))
 | _,_ => 0
theorem nm_mul {q : List Rat} (h0 : 0 < q.length) (h4 : q.length <= 4) (a b : List Rat) : nm q (mulP a b) = nm q a * nm q b:=by
 have lm:=mulP_len a b
 have em : cf (mulP a b) = cnv (cf a) (cf b):=funext fun i => cf_mulP a b i
 match q,h0,h4 with
 | [_],_,_ => show (1 : Rat) = 1 * 1; grind
 | [c0,c1],_,_ => exact vl_mul _ _ _
 | [c0,c1,c2],_,_ =>
  show N2 _ _ (ev2 _ _ _ _) = N2 _ _ (ev2 _ _ _ _) * N2 _ _ (ev2 _ _ _ _)
  rw [<- ev2_more _ _ (n:=(mulP a b).length) (m:=a.length + b.length) (by omega) (fun i hi => cf_out hi),em,ev2_cnv _ _ (fun i hi => cf_out hi) (n:=a.length) (fun i hi => cf_out hi) (Nat.le_refl _),N2_mul]
 | [c0,c1,c2,c3],_,_ =>
  show N3 _ _ _ (ev3 _ _ _ _ _) = N3 _ _ _ (ev3 _ _ _ _ _) * N3 _ _ _ (ev3 _ _ _ _ _)
  rw [<- ev3_more _ _ _ (n:=(mulP a b).length) (m:=a.length + b.length) (by omega) (fun i hi => cf_out hi),em,ev3_cnv _ _ _ (fun i hi => cf_out hi) (n:=a.length) (fun i hi => cf_out hi) (Nat.le_refl _),N3_mul]
theorem ev2_own {c0 c1 c2 : Rat} (h : c2 ≠ 0) : ev2 (c0 / c2) (c1 / c2) 3 (cf [c0,c1,c2]) = ⟨0,0⟩:=by
 apply V2.eq
 ·simp only [ev2,mx2,shf,cf,List.getD,List.getElem?_cons_zero,List.getElem?_cons_succ,Option.getD_some]; grind
 ·simp only [ev2,mx2,shf,cf,List.getD,List.getElem?_cons_zero,List.getElem?_cons_succ,Option.getD_some]; grind
theorem ev3_own {c0 c1 c2 c3 : Rat} (h : c3 ≠ 0) : ev3 (c0 / c3) (c1 / c3) (c2 / c3) 4 (cf [c0,c1,c2,c3]) = ⟨0,0,0⟩:=by
 apply V3.eq
 ·simp only [ev3,mx3,shf,cf,List.getD,List.getElem?_cons_zero,List.getElem?_cons_succ,Option.getD_some]; grind
 ·simp only [ev3,mx3,shf,cf,List.getD,List.getElem?_cons_zero,List.getElem?_cons_succ,Option.getD_some]; grind
 ·simp only [ev3,mx3,shf,cf,List.getD,List.getElem?_cons_zero,List.getElem?_cons_succ,Option.getD_some]; grind
theorem m2_zero (t0 t1 : Rat) (u : V2) : m2 t0 t1 u ⟨0,0⟩ = ⟨0,0⟩:=by
 apply V2.eq
 ·simp only [m2,mx2]; grind
 ·simp only [m2,mx2]; grind
theorem m3_zero (t0 t1 t2 : Rat) (u : V3) : m3 t0 t1 t2 u ⟨0,0,0⟩ = ⟨0,0,0⟩:=by
 apply V3.eq
 ·simp only [m3,mx3,lin3]; grind
 ·simp only [m3,mx3,lin3]; grind
 ·simp only [m3,mx3,lin3]; grind
theorem nm_mod {p q a r : List Rat} (h1 : 1 < q.length) (h4 : q.length <= 4) (tq : Lst q) (h : ∀ k,cf p k = cnv (cf a) (cf q) k + cf r k) : nm q p = nm q r:=by
 have lead:=lst_at tq (k:=q.length - 1) (by omega)
 have ef : cf p = fun k => cnv (cf a) (cf q) k + cf r k:=funext h
 match q,h1,h4,lead,ef,h with
 | [c0,c1],_,_,lead,ef,h =>
  have lead : c1 ≠ 0:=lead
  show vl _ p = vl _ r
  rw [vl_id h]
  have : vl (-(c0 / c1)) [c0,c1] = 0:=by
   show (0 * -(c0 / c1) + c1) * -(c0 / c1) + c0 = 0
   grind
  rw [this]; grind
 | [c0,c1,c2],_,_,lead,ef,h =>
  have lead : c2 ≠ 0:=lead
  show N2 _ _ (ev2 _ _ _ _) = N2 _ _ (ev2 _ _ _ _)
  have e:=ev2_add (c0 / c2) (c1 / c2) (p.length + a.length + 3 + r.length) (cnv (cf a) (cf [c0,c1,c2])) (cf r)
  rw [<- ef,ev2_more _ _ (n:=p.length) (by omega) (fun i hi => cf_out hi),ev2_more _ _ (n:=r.length) (by omega) (fun i hi => cf_out hi),
   ev2_cnv _ _ (m:=3) (fun i hi => cf_out hi) (n:=a.length) (fun i hi => cf_out hi) (by omega),ev2_own lead,m2_zero] at e
  rw [e]
  congr 1
  apply V2.eq <;> exact Rat.zero_add _
 | [c0,c1,c2,c3],_,_,lead,ef,h =>
  have lead : c3 ≠ 0:=lead
  show N3 _ _ _ (ev3 _ _ _ _ _) = N3 _ _ _ (ev3 _ _ _ _ _)
  have e:=ev3_add (c0 / c3) (c1 / c3) (c2 / c3) (p.length + a.length + 4 + r.length) (cnv (cf a) (cf [c0,c1,c2,c3])) (cf r)
  rw [<- ef,ev3_more _ _ _ (n:=p.length) (by omega) (fun i hi => cf_out hi),ev3_more _ _ _ (n:=r.length) (by omega) (fun i hi => cf_out hi),
   ev3_cnv _ _ _ (m:=4) (fun i hi => cf_out hi) (n:=a.length) (fun i hi => cf_out hi) (by omega),ev3_own lead,m3_zero] at e
  rw [e]
  congr 1
  apply V3.eq <;> exact Rat.zero_add _
theorem nm_nil {q : List Rat} (h1 : 1 < q.length) (h4 : q.length <= 4) : nm q [] = 0:=by
 match q,h1,h4 with
 | [c0,c1],_,_ => rfl
 | [c0,c1,c2],_,_ =>
  show N2 _ _ ⟨0,0⟩ = 0
  simp only [N2,mx2]; grind
 | [c0,c1,c2,c3],_,_ =>
  show N3 _ _ _ ⟨0,0,0⟩ = 0
  simp only [N3,det3,mx3]; grind
def FF (p q : List Rat) : Rat:=sgM (p.length - 1) (q.length - 1) * (rpow (cf q (q.length - 1)) (p.length - 1) * nm q p)
theorem key {q r : List Rat} (h4 : q.length <= 4) (tq : Lst q) (tr : Lst r) (r0 : 0 < r.length) (hl : r.length < q.length) : FF q r = rpow (cf q (q.length - 1)) (r.length - 1) * nm q r:=by
 have lq:=lst_at tq (k:=q.length - 1) (by omega)
 have lr:=lst_at tr (k:=r.length - 1) (by omega)
 match q,r,h4,r0,hl,lq,lr with
 | [_],r,_,r0,hl,_,_ => exact absurd (show r.length < 1 from hl) (by omega)
 | [c0,c1],[a],_,_,_,lq,lr =>
  show sgM 1 0 * (rpow a 1 * 1) = 1 * (0 * _ + a)
  rw [show sgM 1 0 = 1 from rfl]
  show 1 * (1 * a * 1) = _
  grind
 | [c0,c1,c2],[a],_,_,_,lq,lr =>
  show sgM 2 0 * (1 * a * a * 1) = 1 * N2 (c0 / c2) (c1 / c2) (ev2 (c0 / c2) (c1 / c2) 1 (cf [a]))
  rw [show sgM 2 0 = 1 from rfl]
  simp only [N2,ev2,mx2,cf,List.getD,List.getElem?_cons_zero,Option.getD_some]
  grind
 | [c0,c1,c2,c3],[a],_,_,_,lq,lr =>
  show sgM 3 0 * (1 * a * a * a * 1) = 1 * N3 (c0 / c3) (c1 / c3) (c2 / c3) (ev3 (c0 / c3) (c1 / c3) (c2 / c3) 1 (cf [a]))
  rw [show sgM 3 0 = 1 from rfl]
  simp only [N3,det3,ev3,mx3,cf,List.getD,List.getElem?_cons_zero,Option.getD_some]
  grind
 | [c0,c1,c2],[a,b],_,_,_,lq,lr =>
  have lq : c2 ≠ 0:=lq
  have lr : b ≠ 0:=lr
  show sgM 2 1 * (1 * b * b * (((0 * -(a / b) + c2) * -(a / b) + c1) * -(a / b) + c0)) = 1 * c2 * N2 (c0 / c2) (c1 / c2) (ev2 (c0 / c2) (c1 / c2) 2 (cf [a,b]))
  rw [show sgM 2 1 = 1 from rfl]
  simp only [N2,ev2,mx2,shf,cf,List.getD,List.getElem?_cons_zero,List.getElem?_cons_succ,Option.getD_some]
  grind
 | [c0,c1,c2,c3],[a,b],_,_,_,lq,lr =>
  have lq : c3 ≠ 0:=lq
  have lr : b ≠ 0:=lr
  show sgM 3 1 * (1 * b * b * b * ((((0 * -(a / b) + c3) * -(a / b) + c2) * -(a / b) + c1) * -(a / b) + c0)) = 1 * c3 * N3 (c0 / c3) (c1 / c3) (c2 / c3) (ev3 (c0 / c3) (c1 / c3) (c2 / c3) 2 (cf [a,b]))
  rw [show sgM 3 1 = -1 from rfl]
  simp only [N3,det3,ev3,mx3,shf,cf,List.getD,List.getElem?_cons_zero,List.getElem?_cons_succ,Option.getD_some]
  grind
 | [c0,c1,c2,c3],[a,b,d],_,_,_,lq,lr =>
  have lq : c3 ≠ 0:=lq
  have lr : d ≠ 0:=lr
  show sgM 3 2 * (1 * d * d * d * N2 (a / d) (b / d) (ev2 (a / d) (b / d) 4 (cf [c0,c1,c2,c3]))) = 1 * c3 * c3 * N3 (c0 / c3) (c1 / c3) (c2 / c3) (ev3 (c0 / c3) (c1 / c3) (c2 / c3) 3 (cf [a,b,d]))
  rw [show sgM 3 2 = 1 from rfl]
  obtain ⟨t0,h0⟩ : ∃ t0,c0 = t0 * c3:=⟨c0 / c3,by grind⟩
  obtain ⟨t1,h1⟩ : ∃ t1,c1 = t1 * c3:=⟨c1 / c3,by grind⟩
  obtain ⟨t2,h2⟩ : ∃ t2,c2 = t2 * c3:=⟨c2 / c3,by grind⟩
  obtain ⟨s0,g0⟩ : ∃ s0,a = s0 * d:=⟨a / d,by grind⟩
  obtain ⟨s1,g1⟩ : ∃ s1,b = s1 * d:=⟨b / d,by grind⟩
  subst h0 h1 h2 g0 g1
  rw [show t0 * c3 / c3 = t0 by grind,show t1 * c3 / c3 = t1 by grind,show t2 * c3 / c3 = t2 by grind,show s0 * d / d = s0 by grind,show s1 * d / d = s1 by grind]
  simp only [N3,N2,det3,ev2,mx2,ev3,mx3,shf,cf,List.getD,List.getElem?_cons_zero,List.getElem?_cons_succ,Option.getD_some]
  grind
theorem res_form {p q : List Rat} {v : Rat} (h : ResR p q v) : Lst p -> Lst q -> 0 < p.length -> 0 < q.length -> q.length <= 4 -> v = FF p q:=by
 induction h with
 | @const p q h0 h65 h1 ok =>
  intro tp tq _ _ _
  match q,h1 with
  | [c],_ =>
   show rpow c _ = sgM _ 0 * (rpow c _ * 1)
   have : sgM (p.length - 1) 0 = 1:=if_neg (by omega)
   rw [this]; grind
 | @swap p q w v h0 h1 h2 h65 hr hs ih =>
  intro tp tq _ q0 h4
  have:=ih tq tp q0 h0 (by omega)
  rw [sgn_eq hs,this,key h4 tq tp h0 h1]; rfl
 | @zero p q a h1 h2 h65 hd =>
  intro tp tq _ q0 h4
  obtain ⟨_,hid⟩:=divR_id hd h1 q0 tq
  unfold FF
  rw [nm_mod h2 h4 tq hid,nm_nil h2 h4]; grind
 | @step p q a r w v h1 h2 h65 hd h3 h4 ok hr hm hs ih =>
  intro tp tq _ q0 hq4
  obtain ⟨tr,hid⟩:=divR_id hd h1 q0 tq
  have:=ih tq tr q0 h3 (by omega)
  rw [sgn_eq hs,this,key hq4 tq tr h3 h4,<- Rat.mul_assoc (rpow _ _),<- rpow_add,show p.length - 1 - r.length + 1 + (r.length - 1) = p.length - 1 by omega,<- nm_mod h2 hq4 tq hid]
  rfl
theorem FF_mul {a b q : List Rat} (a0 : 0 < a.length) (b0 : 0 < b.length) (q0 : 0 < q.length) (h4 : q.length <= 4) : FF (mulP a b) q = FF a q * FF b q:=by
 unfold FF
 rw [nm_mul q0 h4,mulP_len0 a0 b0,show a.length + b.length - 1 - 1 = (a.length - 1) + (b.length - 1) by omega,sg_add,rpow_add]
 grind
theorem FF_lin {r : Int} {q : List Rat} (q0 : 0 < q.length) (h4 : q.length <= 4) (tq : Lst q) : FF (lin r) q = vl (r : Rat) q:=by
 have lq:=lst_at tq (k:=q.length - 1) (by omega)
 have hl : lin r = [-(r : Rat),1]:=by
  show [((-r : Int) : Rat),1] = _
  rw [Rat.intCast_neg]
 rw [hl]
 generalize (r : Rat) = x
 match q,q0,h4,lq with
 | [c0],_,_,lq =>
  show sgM 1 0 * (1 * c0 * 1) = 0 * x + c0
  rw [show sgM 1 0 = 1 from rfl]; grind
 | [c0,c1],_,_,lq =>
  have lq : c1 ≠ 0:=lq
  show sgM 1 1 * (1 * c1 * ((0 * -(c0 / c1) + 1) * -(c0 / c1) + -x)) = (0 * x + c1) * x + c0
  rw [show sgM 1 1 = -1 from rfl]; grind
 | [c0,c1,c2],_,_,lq =>
  have lq : c2 ≠ 0:=lq
  show sgM 1 2 * (1 * c2 * N2 (c0 / c2) (c1 / c2) (ev2 (c0 / c2) (c1 / c2) 2 (cf [-x,1]))) = ((0 * x + c2) * x + c1) * x + c0
  rw [show sgM 1 2 = 1 from rfl]
  simp only [N2,ev2,mx2,shf,cf,List.getD,List.getElem?_cons_zero,List.getElem?_cons_succ,Option.getD_some]
  grind
 | [c0,c1,c2,c3],_,_,lq =>
  have lq : c3 ≠ 0:=lq
  show sgM 1 3 * (1 * c3 * N3 (c0 / c3) (c1 / c3) (c2 / c3) (ev3 (c0 / c3) (c1 / c3) (c2 / c3) 2 (cf [-x,1]))) = (((0 * x + c3) * x + c2) * x + c1) * x + c0
  rw [show sgM 1 3 = -1 from rfl]
  simp only [N3,det3,ev3,mx3,shf,cf,List.getD,List.getElem?_cons_zero,List.getElem?_cons_succ,Option.getD_some]
  grind
def rsV : List (Int × Nat) -> List Rat -> Rat
 | [],_ => 1
 | x :: D,q => rsV D q * vl (x.1 : Rat) q
def rsR (x : Rat) : List (Int × Nat) -> Rat
 | [] => 1
 | y :: E => rsR x E * (x - (y.1 : Rat))
def rsP : List (Int × Nat) -> List (Int × Nat) -> Rat
 | [],_ => 1
 | x :: D,E => rsP D E * rsR (x.1 : Rat) E
theorem FF_one {q : List Rat} (q0 : 0 < q.length) (h4 : q.length <= 4) : FF [1] q = 1:=by
 match q,q0,h4 with
 | [c0],_,_ => show (1 : Rat) * (1 * 1) = 1; grind
 | [c0,c1],_,_ =>
  show sgM 0 1 * (1 * (0 * _ + 1)) = 1
  rw [show sgM 0 1 = 1 from rfl]; grind
 | [c0,c1,c2],_,_ =>
  show sgM 0 2 * (1 * N2 (c0 / c2) (c1 / c2) (ev2 (c0 / c2) (c1 / c2) 1 (cf [1]))) = 1
  rw [show sgM 0 2 = 1 from rfl]
  simp only [N2,ev2,mx2,cf,List.getD,List.getElem?_cons_zero,Option.getD_some]
  grind
 | [c0,c1,c2,c3],_,_ =>
  show sgM 0 3 * (1 * N3 (c0 / c3) (c1 / c3) (c2 / c3) (ev3 (c0 / c3) (c1 / c3) (c2 / c3) 1 (cf [1]))) = 1
  rw [show sgM 0 3 = 1 from rfl]
  simp only [N3,det3,ev3,mx3,cf,List.getD,List.getElem?_cons_zero,Option.getD_some]
  grind
theorem FF_w {q : List Rat} (q0 : 0 < q.length) (h4 : q.length <= 4) (tq : Lst q) : ∀ D,Small D -> FF (wL D) q = rsV D q
 | [],_ => FF_one q0 h4
 | x :: D,h => by
  obtain ⟨w1,_,_⟩:=wL_ok D h.tl
  show FF (mulP (wL D) (lin x.1)) q = _
  rw [FF_mul (by omega) (by rw [lin_len]; decide) q0 h4,FF_w q0 h4 tq D h.tl,FF_lin q0 h4 tq]
  rfl
theorem vl_w (x : Rat) : ∀ E,vl x (wL E) = rsR x E
 | [] => by show 0 * x + 1 = 1; grind
 | y :: E => by
  show vl x (mulP (wL E) (lin y.1)) = rsR x E * _
  rw [vl_mul,vl_w x E]
  have : vl x (lin y.1) = x - (y.1 : Rat):=by
   show (0 * x + 1) * x + ((-y.1 : Int) : Rat) = _
   rw [Rat.intCast_neg]; grind
  rw [this]
theorem pv_w : ∀ D E,rsV D (wL E) = rsP D E
 | [],_ => rfl
 | x :: D,E => by show rsV D (wL E) * vl _ (wL E) = _; rw [pv_w D E,vl_w]; rfl
theorem pp_nil : ∀ E,rsP E [] = 1
 | [] => rfl
 | y :: E => by show rsP E [] * 1 = 1; rw [pp_nil E,Rat.mul_one]
def rsQ (x : Rat) : List (Int × Nat) -> Rat
 | [] => 1
 | y :: E => rsQ x E * ((y.1 : Rat) - x)
theorem qr_pr (x : Rat) : ∀ E,rsQ x E = rpow (-1) E.length * rsR x E
 | [] => by show (1 : Rat) = 1 * 1; grind
 | y :: E => by
  show rsQ x E * _ = rpow (-1) E.length * (-1) * (rsR x E * _)
  rw [qr_pr x E]; grind
theorem pp_snoc (x : Int × Nat) (D : List (Int × Nat)) : ∀ E,rsP E (x :: D) = rsP E D * rsQ (x.1 : Rat) E
 | [] => by show (1 : Rat) = 1 * 1; grind
 | y :: E => by
  show rsP E (x :: D) * (rsR (y.1 : Rat) D * _) = rsP E D * rsR (y.1 : Rat) D * (rsQ (x.1 : Rat) E * _)
  rw [pp_snoc x D E]; grind
theorem pp_swap {E : List (Int × Nat)} (h : rpow (-1) E.length = 1) : ∀ D,rsP E D = rsP D E
 | [] => pp_nil E
 | x :: D => by
  rw [pp_snoc,pp_swap h D,qr_pr,h,Rat.one_mul]; rfl
theorem pv_congr {q r : List Rat} : ∀ D,(∀ x ∈ D,vl (x.1 : Rat) q = vl (x.1 : Rat) r) -> rsV D q = rsV D r
 | [],_ => rfl
 | x :: D,h => by
  show rsV D q * _ = rsV D r * _
  rw [pv_congr D fun z hz => h z (List.mem_cons.2 (.inr hz)),h x (List.mem_cons.2 (.inl rfl))]
theorem pr_self {x : Rat} : ∀ E,(∃ y,y ∈ E∧(y.1 : Rat) = x) -> rsR x E = 0
 | [],h => by obtain ⟨_,h,_⟩:=h; cases h
 | y :: E,h => by
  obtain ⟨z,hz,e⟩:=h
  show rsR x E * (x - (y.1 : Rat)) = 0
  rcases List.mem_cons.1 hz with rfl | hz
  ·rw [e]; grind
  ·rw [pr_self E ⟨z,hz,e⟩,Rat.zero_mul]
theorem roots_res {D E : List (Int × Nat)} {v : Rat} (hD : Small D) (hE : Small E) (lD : D.length <= 4) (lE : E.length <= 4) (h : ResR (wL D) (wL E) v) : v = rsP D E:=by
 obtain ⟨d1,d2,_⟩:=wL_ok D hD
 obtain ⟨e1,e2,_⟩:=wL_ok E hE
 by_cases h3 : E.length <= 3
 ·rw [res_form h d2 e2 (by omega) (by omega) (by omega),FF_w (by omega) (by omega) e2 D hD,pv_w]
 ·have l4 : E.length = 4:=by omega
  have sgn : ∀ m,sgM m ((wL E).length - 1) = 1:=fun m => by unfold sgM; rw [if_neg]; omega
  have m4 : rpow (-1) E.length = 1:=by
   rw [l4]
   show (1 : Rat) * (-1) * (-1) * (-1) * (-1) = 1
   grind
  rw [<- pp_swap m4 D,<- pv_w E D]
  have topE : cf (wL E) ((wL E).length - 1) = 1:=by rw [e1,Nat.add_sub_cancel]; exact wL_top E hE
  have root : ∀ x ∈ E,vl (x.1 : Rat) (wL E) = 0:=fun x hx => by rw [vl_w]; exact pr_self E ⟨x,hx,rfl⟩
  generalize hP : wL D = P at *
  generalize hQ : wL E = Q at *
  cases h with
  | const h0 h65 h1 ok => omega
  | swap h0 h1 h2 h65 hr hs =>
   rw [sgn_eq hs,sgn,Rat.one_mul,res_form hr e2 d2 (by omega) (by omega) (by omega),<- hQ,FF_w (by omega) (by omega) d2 E hE]
  | zero h1 h2 h65 hd =>
   obtain ⟨_,hid⟩:=divR_id hd h1 (by omega) e2
   rw [pv_congr (r:=[]) E fun x hx => by rw [vl_id hid,root x hx]; grind]
   match E,l4 with
   | y :: E',_ =>
    show 0 = rsV E' [] * 0
    rw [Rat.mul_zero]
  | step h1 h2 h65 hd h3 h4 ok hr hm hs =>
   obtain ⟨tr,hid⟩:=divR_id hd h1 (by omega) e2
   rw [sgn_eq hs,sgn,Rat.one_mul,topE,rpow_one,Rat.one_mul,res_form hr e2 tr (by omega) h3 (by omega),<- hQ,FF_w h3 (by omega) tr E hE]
   exact pv_congr E fun x hx => by rw [vl_id hid,root x hx]; grind
def Bz (p q : List Rat) : Prop:=∃ u w,Fs u∧Fs w∧∀ k,cnv u (cf p) k + cnv w (cf q) k = one0 k
theorem Bz.symm {p q : List Rat} (h : Bz p q) : Bz q p:=by
 obtain ⟨u,w,fu,fw,h⟩:=h
 exact ⟨w,u,fw,fu,fun k => by rw [Rat.add_comm]; exact h k⟩
theorem no_one {q : List Rat} (h1 : 1 < q.length) (tq : Lst q) {w : Nat -> Rat} (fw : Fs w) (h : ∀ k,cnv w (cf q) k = one0 k) : False:=by
 have top:=lst_at tq (k:=q.length - 1) (by omega)
 rcases fs_top fw with hz | ⟨i,hi,hj⟩
 ·have:=h 0
  rw [show w = fun _ => 0 from funext hz,cnv_zerol] at this
  exact absurd this.symm (show (1 : Rat) ≠ 0 by decide)
 ·have:=cnv_top (d:=cf q) (e:=q.length - 1) hj (fun j hj => cf_out (p:=q) (i:=j) (by omega))
  rw [h,show one0 (i + (q.length - 1)) = 0 from if_neg (by omega)] at this
  rcases Rat.mul_eq_zero.1 this.symm with e | e
  ·exact hi e
  ·exact top e
theorem bz_step {p q a r : List Rat} (h : ∀ k,cf p k = cnv (cf a) (cf q) k + cf r k) : Bz p q ↔ Bz q r:=by
 constructor
 ·rintro ⟨u,w,fu,fw,e⟩
  refine ⟨fun i => cnv u (cf a) i + w i,u,(fu.cnv (fs_cf a)).add fw,fu,fun k => ?_⟩
  rw [<- e,cnv_addl (cf q) (cnv u (cf a)) w,show cf p = fun k => cnv (cf a) (cf q) k + cf r k from funext h,cnv_add u (cnv (cf a) (cf q)) (cf r),cnv_assoc]
  grind
 ·rintro ⟨u,w,fu,fw,e⟩
  refine ⟨w,fun i => u i - cnv w (cf a) i,fw,fu.sub (fw.cnv (fs_cf a)),fun k => ?_⟩
  rw [<- e,cnv_subl (cf q) u (cnv w (cf a)),show cf p = fun k => cnv (cf a) (cf q) k + cf r k from funext h,cnv_add w (cnv (cf a) (cf q)) (cf r),cnv_assoc]
  grind
theorem res_zero {p q : List Rat} {v : Rat} (h : ResR p q v) : Lst p -> Lst q -> 0 < p.length -> 0 < q.length -> (v ≠ 0 ↔ Bz p q):=by
 induction h with
 | @const p q h0 h65 h1 ok =>
  intro tp tq _ _
  have lq:=lst_at tq (k:=0) h1
  refine ⟨fun _ => ⟨fun _ => 0,fun i => 1 / cf q 0 * one0 i,fs_zero,fs_one.scale _,fun k => ?_⟩,fun _ => rpow_ne lq _⟩
  rw [cnv_zerol,cnv_mulc (1 / cf q 0) one0,cnv_one,Rat.zero_add]
  cases k with
  | zero => show 1 / cf q 0 * cf q 0 = 1; grind
  | succ k => rw [cf_out (p:=q) (i:=k + 1) (by omega),Rat.mul_zero]; rfl
 | @swap p q w v h0 h1 h2 h65 hr hs ih =>
  intro tp tq _ q0
  rw [sgn_eq hs]
  have:=ih tq tp q0 h0
  constructor
  ·intro hv
   exact (this.1 fun e => hv (by rw [e,Rat.mul_zero])).symm
  ·intro hb e
   rcases Rat.mul_eq_zero.1 e with e | e
   ·exact sg_ne _ _ e
   ·exact this.2 hb.symm e
 | @zero p q a h1 h2 h65 hd =>
  intro tp tq _ q0
  obtain ⟨_,hid⟩:=divR_id hd h1 q0 tq
  refine ⟨fun h => absurd rfl h,fun hb => ?_⟩
  obtain ⟨u,w,fu,fw,e⟩:=(bz_step hid).1 hb
  refine absurd (fun k => ?_) (no_one h2 tq fu)
  rw [<- e,cnv_congr (f:=w) (f':=w) (g:=cf []) (g':=fun _ => 0) (fun _ => rfl) (fun i => cf_out (Nat.zero_le _)),cnv_comm w,cnv_zerol,Rat.add_zero]
 | @step p q a r w v h1 h2 h65 hd h3 h4 ok hr hm hs ih =>
  intro tp tq _ q0
  obtain ⟨tr,hid⟩:=divR_id hd h1 q0 tq
  rw [sgn_eq hs,bz_step hid,<- ih tq tr q0 h3]
  have lq:=lst_at tq (k:=q.length - 1) (by omega)
  constructor
  ·intro hv e
   exact hv (by rw [e,Rat.mul_zero,Rat.mul_zero])
  ·intro hw e
   rcases Rat.mul_eq_zero.1 e with e | e
   ·exact sg_ne _ _ e
   ·rcases Rat.mul_eq_zero.1 e with e | e
    ·exact rpow_ne lq _ e
    ·exact hw e
theorem bz_gcd {p q h : List Rat} (hA : Alg p q h) (th : Lst h) (hm : h.length = 0 ∨ cf h (h.length - 1) = 1) (h0 : 0 < h.length) : Bz p q ↔ ¬ 1 < h.length:=by
 obtain ⟨u,v,s,t,fu,fv,fs,ft,e1,e2,e3⟩:=hA
 constructor
 ·rintro ⟨x,y,fx,fy,e⟩ h1
  refine no_one h1 th (w:=fun i => cnv x s i + cnv y t i) ((fx.cnv fs).add (fy.cnv ft)) fun k => ?_
  rw [<- e,cnv_addl (cf h) (cnv x s) (cnv y t),<- cnv_assoc,<- cnv_assoc]
  congr 1
  ·exact cnv_congr (fun _ => rfl) fun i => (e2 i).symm
  ·exact cnv_congr (fun _ => rfl) fun i => (e3 i).symm
 ·intro h1
  refine ⟨u,v,fu,fv,fun k => ?_⟩
  rw [<- e1]
  have hm:=hm.resolve_left (by omega)
  match h,h0,h1,hm with
  | [x],_,_,hm =>
   have hm : x = 1:=hm
   subst hm
   cases k with
   | zero => rfl
   | succ k => exact cf_out (p:=[(1 : Rat)]) (by simp)
  | _ :: _ :: l,_,h1,_ => exact absurd (show 1 < l.length + 1 + 1 by omega) h1
end Ab
end
section
open Go Go.Proofs
namespace Ab
set_option maxRecDepth 100000
set_option maxHeartbeats 1000000
theorem Resultant_nil (gl : List (Nat × AV)) {p q : List Rat} (hp : Poly p) (hq : Poly q) (h : p.length = 0 ∨ q.length = 0) : Spec Tryz.prog gl 25 [polyV p,polyV q] (.tup [rV 0,.int .i64 0]):=by
 have w:=want2 gl hp hq
 have o0 : Spec Tryz.prog gl 59 [.int .i64 0] (rV 0):=of_uni gl (n:=0) (by decide) (by decide)
 have lp:=poly_len p
 have lq:=poly_len q
 unfold rV rv at o0
 refine spec_fn T_ok mixed_ok 0 Tryz.func25 fn_ok25 (by kernel_rfl) ?_
 refine And.intro (Nat.le_refl 2) ?_
 first | refine Exists.intro _ (And.intro (w) ?_) | refine Hn_by (Exists.intro _ (And.intro (w) ?_))
 refine grE (fun _ => ?_) (fun g => ?_)
 ·repeat (first | refine gT ?_ | refine gF ?_ | refine brT ?_ | refine brF ?_)
  first | refine Exists.intro _ (And.intro (o0) ?_) | refine Hn_by (Exists.intro _ (And.intro (o0) ?_))
  exact And.intro (Or.inr rfl) rfl
 ·repeat (first | refine gT ?_ | refine gF ?_ | refine brT ?_ | refine brF ?_)
  refine brE (fun _ => ?_) (fun g2 => ?_)
  ·first | refine Exists.intro _ (And.intro (o0) ?_) | refine Hn_by (Exists.intro _ (And.intro (o0) ?_))
   exact And.intro (Or.inr rfl) rfl
  ·exact absurd h (fun h => h.elim (fun h => g (show ((p.map rv).length : Int) = 0 by omega)) (fun h => g2 (show ((q.map rv).length : Int) = 0 by omega)))
def rts (l : List Int) (k : Nat) : List (Int × Nat):=((l.take k).map fun x => (pickU x 19 - 9,1)).reverse
theorem rts_succ {l : List Int} {k : Nat} {x : Int} (h : l[k]? = some x) : rts l (k + 1) = (pickU x 19 - 9,1) :: rts l k:=by
 unfold rts
 rw [List.take_add_one,h]
 simp
theorem rts_small (l : List Int) (k : Nat) : Small (rts l k):=fun z hz => by
 unfold rts at hz
 rw [List.mem_reverse] at hz
 obtain ⟨x,_,rfl⟩:=List.mem_map.1 hz
 have:=pickU_bd (x:=x) (n:=19) (by decide)
 show (pickU x 19 - 9).natAbs <= 9
 omega
theorem rts_len (l : List Int) (k : Nat) : (rts l k).length <= k:=by
 unfold rts
 simp
 omega
theorem rsR_bv {x : Int} (hx : x.natAbs <= 9) : ∀ E,Small E -> BV (5 * E.length) (rsR (x : Rat) E)
 | [],_ => bv_one
 | y :: E,h => by
  have hy:=h.hd
  have e : (x : Rat) - (y.1 : Rat) = ((x - y.1 : Int) : Rat):=(Rat.intCast_sub _ _).symm
  have b : BV 5 ((x : Rat) - (y.1 : Rat)):=by
   rw [e]
   exact ⟨1,18,by decide,by decide,bd_int (by omega)⟩
  show BV (5 * (E.length + 1)) (rsR (x : Rat) E * _)
  exact ((rsR_bv hx E h.tl).mul b).mono (by omega)
theorem rsP_bv {E : List (Int × Nat)} (hE : Small E) (lE : E.length <= 4) : ∀ D,Small D -> BV (20 * D.length) (rsP D E)
 | [],_ => bv_one
 | x :: D,h => by
  show BV (20 * (D.length + 1)) (rsP D E * _)
  exact ((rsP_bv hE lE D h.tl).mul (rsR_bv h.hd E hE)).mono (by omega)
theorem w_sb {D : List (Int × Nat)} (h : Small D) (l : D.length <= 4) : SB 14 (wL D):=sb_int (wL_ok D h).2.2 (Nat.le_trans (pow10 l) (by decide))
theorem sameRat_bv {s : Nat} {a b : Rat} (ha : BV s a) (hs : s <= 3990) (h : a = b) : Spec Tryz.prog [] 18 [rV a,rV b] (.bool true):=by
 have s:=sameRat_spec [] (a:=a) (b:=b) (ha.rf hs)
 rw [decide_eq_true h] at s
 exact s
theorem res_any {n a b : Nat} {p q : List Rat} (sp : SB a p) (sq : SB b q) (tp : Lst p) (tq : Lst q) (lp : p.length <= 65) (lq : q.length <= 65) (ha : a <= 3000) (hb : b <= 3000) (h : 0 < p.length -> 0 < q.length -> rb n p.length q.length a b <= 1100) :
  ∃ v,Spec Tryz.prog [] 25 [polyV p,polyV q] (.tup [rV v,.int .i64 0])∧BV 1100 v∧(p.length = 0 ∨ q.length = 0 -> v = 0)∧(0 < p.length -> 0 < q.length -> ResR p q v):=by
 by_cases h0 : p.length = 0 ∨ q.length = 0
 ·exact ⟨0,Resultant_nil [] (sp.poly (by omega) lp tp) (sq.poly (by omega) lq tq) h0,bv_zero.mono (by decide),fun _ => rfl,fun h1 h2 => by omega⟩
 ·have h:=h (by omega) (by omega)
  obtain ⟨v,hv,bv⟩:=res_ex n (by omega) sp sq tp tq (by omega) (by omega) lp lq
  exact ⟨v,Resultant_spec [] (sp.poly (by omega) lp tp) (sq.poly (by omega) lq tq) (by omega) (by omega) hv,bv.mono h,fun h => absurd h h0,fun _ _ => hv⟩
theorem rv_cvs {ρ : Nat -> Nat} {ks : List Nat} {n : Nat} {h : Nat -> Option Blk} (r : Rat) : cvs ρ ks n h (rv r) (rv r):=by
 unfold rv qr
 simp only [cvs,cv]
 exact ⟨_,_,rfl,rfl,_,_,rfl,.inl rfl,_,_,rfl,rfl,_,_,rfl,.inl rfl,rfl⟩
set_option maxHeartbeats 8000000 in
theorem res_law (l : List Int) (_hl : l.length <= maxLen) (il : ∀ x ∈ l,I64 x) (m : List Int) (_hm : m.length <= maxLen) (im : ∀ x ∈ m,I64 x) (n3 : List Int) (hn3 : n3.length <= maxLen) (in3 : ∀ x ∈ n3,I64 x)
  (n4 : List Int) (hn4 : n4.length <= maxLen) (in4 : ∀ x ∈ n4,I64 x) (n5 : List Int) (hn5 : n5.length <= maxLen) (in5 : ∀ x ∈ n5,I64 x) :
  Spec Tryz.prog [] 4 [.sl (irows .i64 l),.sl (irows .i64 m),.sl (irows .i64 n3),.sl (irows .i64 n4),.sl (irows .i64 n5)] (.bool true):=by
 have ll : (((irows .i64 l).length : Nat) : Int) = l.length:=by rw [irows_len]
 have lm : (((irows .i64 m).length : Nat) : Int) = m.length:=by rw [irows_len]
 have p3:=pb_poly n3 4
 have p4:=pb_poly n4 4
 have p5:=pb_poly n5 4
 have pa:=lawPoly_pb [] in3 hn3 (n:=4) (by decide)
 have pb:=lawPoly_pb [] in4 hn4 (n:=4) (by decide)
 have pc:=lawPoly_pb [] in5 hn5 (n:=4) (by decide)
 generalize polyQ n3 4 = A at *
 generalize polyQ n4 4 = B at *
 generalize polyQ n5 4 = C at *
 have sa : SB 6 A:=sb_pb p3 (by decide) (by decide)
 have sb : SB 6 B:=sb_pb p4 (by decide) (by decide)
 have sc : SB 6 C:=sb_pb p5 (by decide) (by decide)
 have lA:=p3.l
 have lB:=p4.l
 have lC:=p5.l
 have ab:=p3.mul p4 (by decide)
 have mab:=Mul_sb [] sa sb p3.t p4.t (by omega) (by omega) (by omega) (by omega)
 have sab : SB 14 (mulP A B):=by
  refine ⟨1,4 * (50 * 50),by decide,by decide,bdl_of (by decide) fun i hi => ?_⟩
  have:=mulP_len A B
  rw [cf_mulP]
  have hA : ∀ j,4 <= j -> cf A j = 0:=fun j hj => cf_out (by omega)
  by_cases h4 : i + 1 <= 4
  ·exact (psum_bd (N:=50 * 50) (by decide) (fun j => (p3.b j).mul (p4.b (i - j))) (i + 1)).mono (Nat.mul_le_mul_right _ h4)
  ·unfold cnv
   rw [psum_more (n:=4) (m:=i + 1) (by omega) fun j h1 _ => by rw [hA j h1,Rat.zero_mul]]
   exact psum_bd (N:=50 * 50) (by decide) (fun j => (p3.b j).mul (p4.b (i - j))) 4
 have lab:=mulP_len A B
 have tab:=mulP_lst p3.t p4.t
 obtain ⟨x,r1,bx,zx,fx⟩:=res_any (n:=12) sab sc tab p5.t (by omega) (by omega) (by decide) (by decide) fun h1 h2 => rb_abc _ (by omega) _ (by omega) h1 h2
 obtain ⟨y,r2,by_,zy,fy⟩:=res_any (n:=12) sa sc p3.t p5.t (by omega) (by omega) (by decide) (by decide) fun h1 h2 => rb_ac _ (by omega) _ (by omega) h1 h2
 obtain ⟨z,r3,bz,zz,fz⟩:=res_any (n:=12) sb sc p4.t p5.t (by omega) (by omega) (by decide) (by decide) fun h1 h2 => rb_ac _ (by omega) _ (by omega) h1 h2
 have exyz : x = y * z:=by
  by_cases c0 : C.length = 0
  ·rw [zx (.inr c0),zy (.inr c0),Rat.zero_mul]
  ·by_cases a0 : A.length = 0
   ·rw [zy (.inl a0),Rat.zero_mul]
    exact zx (.inl (by rw [List.eq_nil_of_length_eq_zero a0,mulP_nil]; rfl))
   ·by_cases b0 : B.length = 0
    ·rw [zz (.inl b0),Rat.mul_zero]
     exact zx (.inl (by unfold mulP; rw [if_pos (.inr b0)]; rfl))
    ·have:=mulP_len0 (p:=A) (q:=B) (by omega) (by omega)
     rw [res_form (fx (by omega) (by omega)) tab p5.t (by omega) (by omega) lC,res_form (fy (by omega) (by omega)) p3.t p5.t (by omega) (by omega) lC,
      res_form (fz (by omega) (by omega)) p4.t p5.t (by omega) (by omega) lC,FF_mul (by omega) (by omega) (by omega) lC]
 have mu:=mul_rat [] (by_.fm bz (by decide))
 have s1:=sameRat_bv bx (by decide) exyz
 have sy:=sign_rat [] (by_.rf (by decide))
 have s1' : SB 6 [(1 : Rat)]:=sb_int (N:=1) (bdl_of (by decide) fun i hi => by
   have : i = 0:=by simpa using hi
   subst this
   exact bd_int (n:=1) (by decide)) (by decide)
 obtain ⟨k,H,hk1,_,hA,hS,hT,hL,hM⟩:=chain (cap:=200) (e:=6) (by decide) one_lst (by decide) s1' (by decide) 9 (gok_divs _ lA _ lC) sa sc p3.t p5.t (by omega) (by omega) (scal_refl [1]) (scal_refl [1]) s1' s1'
 have gc:=GCD_spec [] (sa.poly (by omega) (by omega) p3.t) (sc.poly (by omega) (by omega) p5.t) hk1
 have lH:=poly_len H
 have lA':=poly_len A
 have lC':=poly_len C
 have hfin : A.length ≠ 0 -> C.length ≠ 0 -> ((sgR y == 0) == decide (((H.map rv).length : Int) > 1)) = true:=fun a0 c0 => by
  have hz:=res_zero (fy (by omega) (by omega)) p3.t p5.t (by omega) (by omega)
  have h0 : 0 < H.length:=by
   apply Decidable.byContradiction
   intro hn
   have eh:=List.eq_nil_of_length_eq_zero (show H.length = 0 by omega)
   obtain ⟨_,_,s,_,_,_,_,_,_,e2,_⟩:=hA
   refine lst_at p3.t (k:=A.length - 1) (by omega) ?_
   rw [e2,eh,cnv_congr (f:=s) (f':=s) (g':=fun _ => 0) (fun _ => rfl) (fun i => cf_out (Nat.zero_le _)),cnv_comm,cnv_zerol]
  have hb:=bz_gcd hA hT hM h0
  by_cases e : y = 0
  ·have h1 : 1 < H.length:=by
    apply Decidable.byContradiction
    intro hn
    exact (hz.2 (hb.2 hn)) e
   rw [sgR_zero.2 e,decide_eq_true (show ((H.map rv).length : Int) > 1 by omega)]
   rfl
  ·have h1 : ¬ 1 < H.length:=hb.1 (hz.1 e)
   rw [decide_eq_false (show ¬ ((H.map rv).length : Int) > 1 by omega)]
   have : (sgR y == 0) = false:=by
    have : sgR y ≠ 0:=fun h => e (sgR_zero.1 h)
    simpa using this
   rw [this]
   rfl
 obtain ⟨L,hL'⟩ : ∃ L,L = min l.length 4:=⟨_,rfl⟩
 obtain ⟨M,hM'⟩ : ∃ M,M = min m.length 4:=⟨_,rfl⟩
 have kl:=rts_len l L
 have km:=rts_len m M
 obtain ⟨w1,w2,_⟩:=wL_ok (rts l L) (rts_small l L)
 obtain ⟨w3,w4,_⟩:=wL_ok (rts m M) (rts_small m M)
 obtain ⟨v0,r0,bv0,_,fv⟩:=res_any (n:=12) (w_sb (rts_small l L) (by omega)) (w_sb (rts_small m M) (by omega)) w2 w4 (by omega) (by omega) (by decide) (by decide) fun h1 h2 => rb_lin _ (by omega) _ (by omega) h1 h2
 have s0:=sameRat_bv bv0 (by decide) (roots_res (rts_small l L) (rts_small m M) (by omega) (by omega) (fv (by omega) (by omega)))
 have n1:=number_spec [] (n:=1) (by omega) (by omega)
 have mulW : ∀ {l : List Int} {k : Nat} {a : Int},k <= 4 -> a.natAbs <= 9 -> Spec Tryz.prog [] 16 [polyV (wL (rts l k)),polyV (lin a)] (.tup [polyV (mulP (wL (rts l k)) (lin a)),.int .i64 0]):=fun {l k a} hk ha => by
  have:=rts_len l k
  exact mul_lin (w_sb (rts_small l k) (by omega)) (by decide) (wL_ok _ (rts_small l k)).2.1 (by rw [(wL_ok _ (rts_small l k)).1]; omega) ha
 unfold rV rv at mu s1 sy s0 r0 r1 r2 r3 n1
 refine spec_fn T_ok mixed_ok 0 Tryz.func4 fn_ok4 (by kernel_rfl) ?_
 refine Exists.intro _ (And.intro (sane_spec) ?_)
 repeat (first | refine gT ?_ | refine gF ?_ | refine brT ?_ | refine brF ?_)
 refine Exists.intro _ (And.intro (n1) ?_)
 refine Exists.intro _ (And.intro (n1) ?_)
 refine Exists.intro _ (And.intro (n1) ?_)
 refine aw_loopN 3 (fun i : Nat => stOf [(0,.sl (irows .i64 l)),(1,.sl (irows .i64 m)),(2,.sl (irows .i64 n3)),(3,.sl (irows .i64 n4)),(4,.sl (irows .i64 n5)),(11,polyV (wL (rts l i))),(12,polyV [1]),(13,.bp 2 0),(14,.int .i64 (i : Int))] [(2,.box (rv (rsP (rts l i) (rts m M))))] 3) (fun i => i <= L) (fun i => L - i) 0 (Nat.zero_le _)
  (leR_by [] [0,1] rfl rfl (Nat.le_refl _) ⟨.inl rfl,.inl rfl,.inl rfl,.inl rfl,.inl rfl,.inr (.inr ⟨0,0,1,_,_,_,rfl,by decide,rfl,Nat.le_refl 1,rfl⟩),.inr (.inr ⟨1,0,1,_,_,_,rfl,by decide,rfl,Nat.le_refl 1,rfl⟩),⟨by decide,rfl⟩,rfl,trivial⟩ ⟨⟨rfl,rfl,rv 1,rfl,rv_cvs 1⟩,trivial⟩) (by kernel_rfl) ?_
 intro i hi P hP
 refine br (fun g => ?_) (fun g => ?_)
 ·have g : i < l.length:=by have : (i : Int) < ((irows .i64 l).length : Int):=g; omega
  repeat (first | refine gT ?_ | refine gF ?_ | refine brT ?_ | refine brF ?_)
  refine br (fun g2 => ?_) (fun g2 => ?_)
  ·have g2 : i < 4:=Int.ofNat_lt.1 g2
   obtain ⟨u,hu⟩ : ∃ u,l[i]? = some u:=⟨l[i],List.getElem?_eq_getElem g⟩
   have iu:=il u (List.mem_of_getElem? hu)
   have pk:=pick_uni [] (x:=u) (n:=19) iu.1 iu.2 (by decide)
   have bd:=pickU_bd (x:=u) (n:=19) (by decide)
   have hr:=rts_succ hu
   obtain ⟨a,hea⟩ : ∃ a,a = pickU u 19 - 9:=⟨_,rfl⟩
   rw [<- hea] at hr
   have ha9 : a.natAbs <= 9:=by omega
   have hwa : w64 (pickU u 19 - 9) = a:=by rw [w64_eq (by omega),hea]
   have hw : w64 ((i : Int) + 1) = ((i + 1 : Nat) : Int):=w64_nat (by omega) (by omega)
   have mw:=mulW (l:=l) (k:=i) (a:=a) (by omega) ha9
   have ln:=lin_spec [] (n:=a) (by omega) (by omega)
   have ew : mulP (wL (rts l i)) (lin a) = wL (rts l (i + 1)):=by rw [hr]; rfl
   rw [<- hwa] at ln
   rw [ew] at mw
   refine And.intro (Int.natCast_nonneg i) (Exists.intro _ (And.intro (nat_at (irows_at hu)) ?_))
   refine Exists.intro _ (And.intro (pk) ?_)
   refine Exists.intro _ (And.intro (ln) ?_)
   rw [hwa]
   refine Exists.intro _ (And.intro (mw) ?_)
   refine aw_loopN 3 (fun j : Nat => stOf [(0,.sl (irows .i64 l)),(1,.sl (irows .i64 m)),(2,.sl (irows .i64 n3)),(3,.sl (irows .i64 n4)),(4,.sl (irows .i64 n5)),(11,polyV (wL (rts l (i + 1)))),(12,polyV [1]),(13,.bp 2 0),(14,.int .i64 (i : Int)),(15,.int .i64 (j : Int))] [(2,.box (rv (rsP (rts l i) (rts m M) * rsR (a : Rat) (rts m j))))] 3) (fun j => j <= M) (fun j => M - j) 0 (Nat.zero_le _)
    (.inl (le_by ⟨rfl,rfl,rfl,rfl,rfl,rfl,rfl,rfl,rfl,rfl,trivial⟩ ⟨(show some (Blk.box (rv (rsP (rts l i) (rts m M)))) = some (Blk.box (rv (rsP (rts l i) (rts m M) * 1))) by rw [Rat.mul_one]),trivial⟩ (Nat.le_refl _))) (by kernel_rfl) ?_
   intro j hj P2 hP2
   refine br (fun g3 => ?_) (fun g3 => ?_)
   ·have g3 : j < m.length:=by have : (j : Int) < ((irows .i64 m).length : Int):=g3; omega
    repeat (first | refine gT ?_ | refine gF ?_ | refine brT ?_ | refine brF ?_)
    refine br (fun g4 => ?_) (fun g4 => ?_)
    ·have g4 : j < 4:=Int.ofNat_lt.1 g4
     obtain ⟨t,ht⟩ : ∃ t,m[j]? = some t:=⟨m[j],List.getElem?_eq_getElem g3⟩
     have it:=im t (List.mem_of_getElem? ht)
     have pk2:=pick_uni [] (x:=t) (n:=19) it.1 it.2 (by decide)
     have bd2:=pickU_bd (x:=t) (n:=19) (by decide)
     have wd : w64 (pickU u 19 - pickU t 19) = pickU u 19 - pickU t 19:=w64_eq (by omega)
     have nm:=number_spec [] (n:=pickU u 19 - pickU t 19) (by omega) (by omega)
     have hr2:=rts_succ ht
     have eab : rsP (rts l i) (rts m M) * rsR (a : Rat) (rts m j) * ((pickU u 19 - pickU t 19 : Int) : Rat) = rsP (rts l i) (rts m M) * rsR (a : Rat) (rts m (j + 1)):=by
      rw [hr2,Rat.mul_assoc]
      have : ((pickU u 19 - pickU t 19 : Int) : Rat) = (a : Rat) - ((pickU t 19 - 9 : Int) : Rat):=by
       rw [<- Rat.intCast_sub]; congr 1; omega
      rw [this]
      rfl
     have kj:=rts_len m j
     have ki:=rts_len l i
     have bW:=(rsP_bv (rts_small m M) (by omega) _ (rts_small l i)).mul (rsR_bv ha9 _ (rts_small m j))
     have bn : BV 5 ((pickU u 19 - pickU t 19 : Int) : Rat):=⟨1,18,by decide,by decide,bd_int (by omega)⟩
     have m5:=mul_rat [] (bW.fm bn (by omega))
     rw [eab] at m5
     rw [<- wd] at nm m5
     have hw2 : w64 ((j : Int) + 1) = ((j + 1 : Nat) : Int):=w64_nat (by omega) (by omega)
     generalize rsP (rts l i) (rts m M) * rsR (a : Rat) (rts m j) = W0 at m5
     generalize ((w64 (pickU u 19 - pickU t 19) : Int) : Rat) = nr at nm m5
     unfold rV rv at nm m5
     refine And.intro (by kernel_rfl) ?_
     repeat (first | refine gT ?_ | refine gF ?_ | refine brT ?_ | refine brF ?_ | refine And.intro rfl ?_)
     refine And.intro (Int.natCast_nonneg i) (Exists.intro _ (And.intro (nat_at (irows_at hu)) ?_))
     repeat (first | refine gT ?_ | refine gF ?_ | refine brT ?_ | refine brF ?_ | refine And.intro rfl ?_)
     refine Exists.intro _ (And.intro (pk) ?_)
     repeat (first | refine gT ?_ | refine gF ?_ | refine brT ?_ | refine brF ?_ | refine And.intro rfl ?_)
     refine And.intro (Int.natCast_nonneg j) (Exists.intro _ (And.intro (nat_at (irows_at ht)) ?_))
     repeat (first | refine gT ?_ | refine gF ?_ | refine brT ?_ | refine brF ?_ | refine And.intro rfl ?_)
     refine Exists.intro _ (And.intro (pk2) ?_)
     repeat (first | refine gT ?_ | refine gF ?_ | refine brT ?_ | refine brF ?_ | refine And.intro rfl ?_)
     refine Exists.intro _ (And.intro (nm) ?_)
     repeat (first | refine gT ?_ | refine gF ?_ | refine brT ?_ | refine brF ?_ | refine And.intro rfl ?_)
     refine Exists.intro _ (And.intro (m5) ?_)
     repeat (first | refine gT ?_ | refine gF ?_ | refine brT ?_ | refine brF ?_ | refine And.intro rfl ?_)
     exact hP2 (j + 1) _ (.inl (le_by ⟨rfl,rfl,rfl,rfl,rfl,rfl,rfl,rfl,rfl,int_eq hw2,trivial⟩ ⟨rfl,trivial⟩ (Nat.le_refl _))) (by omega) (by omega)
    ·have g4 : ¬ j < 4:=fun h => g4 (Int.ofNat_lt.2 h)
     have ej : M = j:=by omega
     repeat (first | refine gT ?_ | refine gF ?_ | refine brT ?_ | refine brF ?_)
     subst ej
     clear hP2
     exact hP (i + 1) _ (.inl (le_by ⟨rfl,rfl,rfl,rfl,rfl,rfl,rfl,rfl,int_eq hw,trivial⟩ ⟨(by rw [hr]; rfl),trivial⟩ (Nat.le_refl _))) (by omega) (by omega)
   ·have g3 : ¬ j < m.length:=by have : ¬ (j : Int) < ((irows .i64 m).length : Int):=g3; omega
    have ej : M = j:=by omega
    repeat (first | refine gT ?_ | refine gF ?_ | refine brT ?_ | refine brF ?_)
    subst ej
    clear hP2
    exact hP (i + 1) _ (.inl (le_by ⟨rfl,rfl,rfl,rfl,rfl,rfl,rfl,rfl,int_eq hw,trivial⟩ ⟨(by rw [hr]; rfl),trivial⟩ (Nat.le_refl _))) (by omega) (by omega)
  ·have g2 : ¬ i < 4:=fun h => g2 (Int.ofNat_lt.2 h)
   have ei : L = i:=by omega
   repeat (first | refine gT ?_ | refine gF ?_ | refine brT ?_ | refine brF ?_)
   subst ei
   clear hP
   refine aw_loopN 3 (fun j : Nat => stOf [(0,.sl (irows .i64 l)),(1,.sl (irows .i64 m)),(2,.sl (irows .i64 n3)),(3,.sl (irows .i64 n4)),(4,.sl (irows .i64 n5)),(11,polyV (wL (rts l L))),(12,polyV (wL (rts m j))),(13,.bp 2 0),(16,.int .i64 (j : Int))] [(2,.box (rv (rsP (rts l L) (rts m M))))] 3) (fun j => j <= M) (fun j => M - j) 0 (Nat.zero_le _)
    (.inl (le_by ⟨rfl,rfl,rfl,rfl,rfl,rfl,rfl,rfl,rfl,trivial⟩ ⟨rfl,trivial⟩ (Nat.le_refl _))) (by kernel_rfl) ?_
   intro j hj P2 hP2
   refine br (fun g3 => ?_) (fun g3 => ?_)
   ·have g3 : j < m.length:=by have : (j : Int) < ((irows .i64 m).length : Int):=g3; omega
    repeat (first | refine gT ?_ | refine gF ?_ | refine brT ?_ | refine brF ?_)
    refine br (fun g4 => ?_) (fun g4 => ?_)
    ·have g4 : j < 4:=Int.ofNat_lt.1 g4
     obtain ⟨t,ht⟩ : ∃ t,m[j]? = some t:=⟨m[j],List.getElem?_eq_getElem g3⟩
     have it:=im t (List.mem_of_getElem? ht)
     have pk2:=pick_uni [] (x:=t) (n:=19) it.1 it.2 (by decide)
     have bd2:=pickU_bd (x:=t) (n:=19) (by decide)
     have hr2:=rts_succ ht
     obtain ⟨b,heb⟩ : ∃ b,b = pickU t 19 - 9:=⟨_,rfl⟩
     rw [<- heb] at hr2
     have hb9 : b.natAbs <= 9:=by omega
     have hwb : w64 (pickU t 19 - 9) = b:=by rw [w64_eq (by omega),heb]
     have hw2 : w64 ((j : Int) + 1) = ((j + 1 : Nat) : Int):=w64_nat (by omega) (by omega)
     have mw:=mulW (l:=m) (k:=j) (a:=b) (by omega) hb9
     have ln:=lin_spec [] (n:=b) (by omega) (by omega)
     have ew : mulP (wL (rts m j)) (lin b) = wL (rts m (j + 1)):=by rw [hr2]; rfl
     rw [<- hwb] at ln
     rw [ew] at mw
     refine And.intro (Int.natCast_nonneg j) (Exists.intro _ (And.intro (nat_at (irows_at ht)) ?_))
     refine Exists.intro _ (And.intro (pk2) ?_)
     refine Exists.intro _ (And.intro (ln) ?_)
     rw [hwb]
     refine Exists.intro _ (And.intro (mw) ?_)
     exact hP2 (j + 1) _ (.inl (le_by ⟨rfl,rfl,rfl,rfl,rfl,rfl,rfl,rfl,int_eq hw2,trivial⟩ ⟨rfl,trivial⟩ (Nat.le_refl _))) (by omega) (by omega)
    ·have g4 : ¬ j < 4:=fun h => g4 (Int.ofNat_lt.2 h)
     have ej : M = j:=by omega
     repeat (first | refine gT ?_ | refine gF ?_ | refine brT ?_ | refine brF ?_)
     subst ej
     clear hP2 mulW
     generalize wL (rts m M) = Q at *
     generalize wL (rts l L) = P at *
     generalize rsP (rts l L) (rts m M) = W at *
     unfold rv
     refine Exists.intro _ (And.intro (r0) ?_)
     repeat (first | refine gT ?_ | refine gF ?_ | refine brT ?_ | refine brF ?_)
     refine Exists.intro _ (And.intro (s0) ?_)
     repeat (first | refine gT ?_ | refine gF ?_ | refine brT ?_ | refine brF ?_)
     refine Exists.intro _ (And.intro (pa) ?_)
     refine Exists.intro _ (And.intro (pb) ?_)
     refine Exists.intro _ (And.intro (pc) ?_)
     refine Exists.intro _ (And.intro (mab) ?_)
     refine Exists.intro _ (And.intro (r1) ?_)
     refine Exists.intro _ (And.intro (r2) ?_)
     refine Exists.intro _ (And.intro (r3) ?_)
     refine Exists.intro _ (And.intro (mu) ?_)
     repeat (first | refine gT ?_ | refine gF ?_ | refine brT ?_ | refine brF ?_)
     refine Exists.intro _ (And.intro (s1) ?_)
     repeat (first | refine gT ?_ | refine gF ?_ | refine brT ?_ | refine brF ?_)
     refine Exists.intro _ (And.intro (gc) ?_)
     repeat (first | refine gT ?_ | refine gF ?_ | refine brT ?_ | refine brF ?_)
     refine grE (fun e => ?_) (fun e => ?_)
     ·repeat (first | refine gT ?_ | refine gF ?_ | refine brT ?_ | refine brF ?_)
      exact And.intro (Or.inr rfl) rfl
     ·repeat (first | refine gT ?_ | refine gF ?_ | refine brT ?_ | refine brF ?_)
      refine grE (fun e2 => ?_) (fun e2 => ?_)
      ·repeat (first | refine gT ?_ | refine gF ?_ | refine brT ?_ | refine brF ?_)
       exact And.intro (Or.inr rfl) rfl
      ·repeat (first | refine gT ?_ | refine gF ?_ | refine brT ?_ | refine brF ?_)
       refine Exists.intro _ (And.intro (sy) ?_)
       repeat (first | refine gT ?_ | refine gF ?_ | refine brT ?_ | refine brF ?_)
       exact And.intro (Or.inr rfl) (congrArg AV.bool (hfin (fun h => e (show ((A.map rv).length : Int) = 0 by omega)) (fun h => e2 (show ((C.map rv).length : Int) = 0 by omega))))
   ·have g3 : ¬ j < m.length:=by have : ¬ (j : Int) < ((irows .i64 m).length : Int):=g3; omega
    have ej : M = j:=by omega
    repeat (first | refine gT ?_ | refine gF ?_ | refine brT ?_ | refine brF ?_)
    subst ej
    clear hP2 mulW
    generalize wL (rts m M) = Q at *
    generalize wL (rts l L) = P at *
    generalize rsP (rts l L) (rts m M) = W at *
    unfold rv
    refine Exists.intro _ (And.intro (r0) ?_)
    repeat (first | refine gT ?_ | refine gF ?_ | refine brT ?_ | refine brF ?_)
    refine Exists.intro _ (And.intro (s0) ?_)
    repeat (first | refine gT ?_ | refine gF ?_ | refine brT ?_ | refine brF ?_)
    refine Exists.intro _ (And.intro (pa) ?_)
    refine Exists.intro _ (And.intro (pb) ?_)
    refine Exists.intro _ (And.intro (pc) ?_)
    refine Exists.intro _ (And.intro (mab) ?_)
    refine Exists.intro _ (And.intro (r1) ?_)
    refine Exists.intro _ (And.intro (r2) ?_)
    refine Exists.intro _ (And.intro (r3) ?_)
    refine Exists.intro _ (And.intro (mu) ?_)
    repeat (first | refine gT ?_ | refine gF ?_ | refine brT ?_ | refine brF ?_)
    refine Exists.intro _ (And.intro (s1) ?_)
    repeat (first | refine gT ?_ | refine gF ?_ | refine brT ?_ | refine brF ?_)
    refine Exists.intro _ (And.intro (gc) ?_)
    repeat (first | refine gT ?_ | refine gF ?_ | refine brT ?_ | refine brF ?_)
    refine grE (fun e => ?_) (fun e => ?_)
    ·repeat (first | refine gT ?_ | refine gF ?_ | refine brT ?_ | refine brF ?_)
     exact And.intro (Or.inr rfl) rfl
    ·repeat (first | refine gT ?_ | refine gF ?_ | refine brT ?_ | refine brF ?_)
     refine grE (fun e2 => ?_) (fun e2 => ?_)
     ·repeat (first | refine gT ?_ | refine gF ?_ | refine brT ?_ | refine brF ?_)
      exact And.intro (Or.inr rfl) rfl
     ·repeat (first | refine gT ?_ | refine gF ?_ | refine brT ?_ | refine brF ?_)
      refine Exists.intro _ (And.intro (sy) ?_)
      repeat (first | refine gT ?_ | refine gF ?_ | refine brT ?_ | refine brF ?_)
      exact And.intro (Or.inr rfl) (congrArg AV.bool (hfin (fun h => e (show ((A.map rv).length : Int) = 0 by omega)) (fun h => e2 (show ((C.map rv).length : Int) = 0 by omega))))
 ·have g : ¬ i < l.length:=by have : ¬ (i : Int) < ((irows .i64 l).length : Int):=g; omega
  have ei : L = i:=by omega
  repeat (first | refine gT ?_ | refine gF ?_ | refine brT ?_ | refine brF ?_)
  subst ei
  clear hP
  refine aw_loopN 3 (fun j : Nat => stOf [(0,.sl (irows .i64 l)),(1,.sl (irows .i64 m)),(2,.sl (irows .i64 n3)),(3,.sl (irows .i64 n4)),(4,.sl (irows .i64 n5)),(11,polyV (wL (rts l L))),(12,polyV (wL (rts m j))),(13,.bp 2 0),(16,.int .i64 (j : Int))] [(2,.box (rv (rsP (rts l L) (rts m M))))] 3) (fun j => j <= M) (fun j => M - j) 0 (Nat.zero_le _)
   (.inl (le_by ⟨rfl,rfl,rfl,rfl,rfl,rfl,rfl,rfl,rfl,trivial⟩ ⟨rfl,trivial⟩ (Nat.le_refl _))) (by kernel_rfl) ?_
  intro j hj P2 hP2
  refine br (fun g3 => ?_) (fun g3 => ?_)
  ·have g3 : j < m.length:=by have : (j : Int) < ((irows .i64 m).length : Int):=g3; omega
   repeat (first | refine gT ?_ | refine gF ?_ | refine brT ?_ | refine brF ?_)
   refine br (fun g4 => ?_) (fun g4 => ?_)
   ·have g4 : j < 4:=Int.ofNat_lt.1 g4
    obtain ⟨t,ht⟩ : ∃ t,m[j]? = some t:=⟨m[j],List.getElem?_eq_getElem g3⟩
    have it:=im t (List.mem_of_getElem? ht)
    have pk2:=pick_uni [] (x:=t) (n:=19) it.1 it.2 (by decide)
    have bd2:=pickU_bd (x:=t) (n:=19) (by decide)
    have hr2:=rts_succ ht
    obtain ⟨b,heb⟩ : ∃ b,b = pickU t 19 - 9:=⟨_,rfl⟩
    rw [<- heb] at hr2
    have hb9 : b.natAbs <= 9:=by omega
    have hwb : w64 (pickU t 19 - 9) = b:=by rw [w64_eq (by omega),heb]
    have hw2 : w64 ((j : Int) + 1) = ((j + 1 : Nat) : Int):=w64_nat (by omega) (by omega)
    have mw:=mulW (l:=m) (k:=j) (a:=b) (by omega) hb9
    have ln:=lin_spec [] (n:=b) (by omega) (by omega)
    have ew : mulP (wL (rts m j)) (lin b) = wL (rts m (j + 1)):=by rw [hr2]; rfl
    rw [<- hwb] at ln
    rw [ew] at mw
    refine And.intro (Int.natCast_nonneg j) (Exists.intro _ (And.intro (nat_at (irows_at ht)) ?_))
    refine Exists.intro _ (And.intro (pk2) ?_)
    refine Exists.intro _ (And.intro (ln) ?_)
    rw [hwb]
    refine Exists.intro _ (And.intro (mw) ?_)
    exact hP2 (j + 1) _ (.inl (le_by ⟨rfl,rfl,rfl,rfl,rfl,rfl,rfl,rfl,int_eq hw2,trivial⟩ ⟨rfl,trivial⟩ (Nat.le_refl _))) (by omega) (by omega)
   ·have g4 : ¬ j < 4:=fun h => g4 (Int.ofNat_lt.2 h)
    have ej : M = j:=by omega
    repeat (first | refine gT ?_ | refine gF ?_ | refine brT ?_ | refine brF ?_)
    subst ej
    clear hP2 mulW
    generalize wL (rts m M) = Q at *
    generalize wL (rts l L) = P at *
    generalize rsP (rts l L) (rts m M) = W at *
    unfold rv
    refine Exists.intro _ (And.intro (r0) ?_)
    repeat (first | refine gT ?_ | refine gF ?_ | refine brT ?_ | refine brF ?_)
    refine Exists.intro _ (And.intro (s0) ?_)
    repeat (first | refine gT ?_ | refine gF ?_ | refine brT ?_ | refine brF ?_)
    refine Exists.intro _ (And.intro (pa) ?_)
    refine Exists.intro _ (And.intro (pb) ?_)
    refine Exists.intro _ (And.intro (pc) ?_)
    refine Exists.intro _ (And.intro (mab) ?_)
    refine Exists.intro _ (And.intro (r1) ?_)
    refine Exists.intro _ (And.intro (r2) ?_)
    refine Exists.intro _ (And.intro (r3) ?_)
    refine Exists.intro _ (And.intro (mu) ?_)
    repeat (first | refine gT ?_ | refine gF ?_ | refine brT ?_ | refine brF ?_)
    refine Exists.intro _ (And.intro (s1) ?_)
    repeat (first | refine gT ?_ | refine gF ?_ | refine brT ?_ | refine brF ?_)
    refine Exists.intro _ (And.intro (gc) ?_)
    repeat (first | refine gT ?_ | refine gF ?_ | refine brT ?_ | refine brF ?_)
    refine grE (fun e => ?_) (fun e => ?_)
    ·repeat (first | refine gT ?_ | refine gF ?_ | refine brT ?_ | refine brF ?_)
     exact And.intro (Or.inr rfl) rfl
    ·repeat (first | refine gT ?_ | refine gF ?_ | refine brT ?_ | refine brF ?_)
     refine grE (fun e2 => ?_) (fun e2 => ?_)
     ·repeat (first | refine gT ?_ | refine gF ?_ | refine brT ?_ | refine brF ?_)
      exact And.intro (Or.inr rfl) rfl
     ·repeat (first | refine gT ?_ | refine gF ?_ | refine brT ?_ | refine brF ?_)
      refine Exists.intro _ (And.intro (sy) ?_)
      repeat (first | refine gT ?_ | refine gF ?_ | refine brT ?_ | refine brF ?_)
      exact And.intro (Or.inr rfl) (congrArg AV.bool (hfin (fun h => e (show ((A.map rv).length : Int) = 0 by omega)) (fun h => e2 (show ((C.map rv).length : Int) = 0 by omega))))
  ·have g3 : ¬ j < m.length:=by have : ¬ (j : Int) < ((irows .i64 m).length : Int):=g3; omega
   have ej : M = j:=by omega
   repeat (first | refine gT ?_ | refine gF ?_ | refine brT ?_ | refine brF ?_)
   subst ej
   clear hP2 mulW
   generalize wL (rts m M) = Q at *
   generalize wL (rts l L) = P at *
   generalize rsP (rts l L) (rts m M) = W at *
   unfold rv
   refine Exists.intro _ (And.intro (r0) ?_)
   repeat (first | refine gT ?_ | refine gF ?_ | refine brT ?_ | refine brF ?_)
   refine Exists.intro _ (And.intro (s0) ?_)
   repeat (first | refine gT ?_ | refine gF ?_ | refine brT ?_ | refine brF ?_)
   refine Exists.intro _ (And.intro (pa) ?_)
   refine Exists.intro _ (And.intro (pb) ?_)
   refine Exists.intro _ (And.intro (pc) ?_)
   refine Exists.intro _ (And.intro (mab) ?_)
   refine Exists.intro _ (And.intro (r1) ?_)
   refine Exists.intro _ (And.intro (r2) ?_)
   refine Exists.intro _ (And.intro (r3) ?_)
   refine Exists.intro _ (And.intro (mu) ?_)
   repeat (first | refine gT ?_ | refine gF ?_ | refine brT ?_ | refine brF ?_)
   refine Exists.intro _ (And.intro (s1) ?_)
   repeat (first | refine gT ?_ | refine gF ?_ | refine brT ?_ | refine brF ?_)
   refine Exists.intro _ (And.intro (gc) ?_)
   repeat (first | refine gT ?_ | refine gF ?_ | refine brT ?_ | refine brF ?_)
   refine grE (fun e => ?_) (fun e => ?_)
   ·repeat (first | refine gT ?_ | refine gF ?_ | refine brT ?_ | refine brF ?_)
    exact And.intro (Or.inr rfl) rfl
   ·repeat (first | refine gT ?_ | refine gF ?_ | refine brT ?_ | refine brF ?_)
    refine grE (fun e2 => ?_) (fun e2 => ?_)
    ·repeat (first | refine gT ?_ | refine gF ?_ | refine brT ?_ | refine brF ?_)
     exact And.intro (Or.inr rfl) rfl
    ·repeat (first | refine gT ?_ | refine gF ?_ | refine brT ?_ | refine brF ?_)
     refine Exists.intro _ (And.intro (sy) ?_)
     repeat (first | refine gT ?_ | refine gF ?_ | refine brT ?_ | refine brF ?_)
     exact And.intro (Or.inr rfl) (congrArg AV.bool (hfin (fun h => e (show ((A.map rv).length : Int) = 0 by omega)) (fun h => e2 (show ((C.map rv).length : Int) = 0 by omega))))
end Ab
end
