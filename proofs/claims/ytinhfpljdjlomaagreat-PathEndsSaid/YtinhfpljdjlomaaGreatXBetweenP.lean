import Derived.Test.YtinhfpljdjlomaaGreatXAlong2
open Go Go.Proofs
namespace Ab
set_option maxHeartbeats 1000000
theorem oQ_val {n d : Int} {b : Bool} {z : Int × Int} (h : oQ n d b = some z) (d0 : 0 < d) : z.1 * d = n * z.2:=by
 cases b with
 | false => cases h
 | true =>
  cases h
  have g0:=gcd_pos (n:=n) d0
  have dn:=Int.gcd_dvd_left n d
  have dd:=Int.gcd_dvd_right n d
  show n / (Int.gcd n d : Int) * d = n * (d / (Int.gcd n d : Int))
  generalize (Int.gcd n d : Int) = g at *
  obtain ⟨u,rfl⟩:=dn
  obtain ⟨v,rfl⟩:=dd
  rw [Int.mul_ediv_cancel_left _ (by omega),Int.mul_ediv_cancel_left _ (by omega)]
  grind
theorem tqv (z : Int) : (tq z).1 * 4096 = z * (tq z).2:=by
 have dn:=Int.gcd_dvd_left z 4096
 have dd:=Int.gcd_dvd_right z 4096
 have g0:=gcd_pos (n:=z) (d:=4096) (by decide)
 unfold tq
 show z / (Int.gcd z 4096 : Int) * 4096 = z * (4096 / (Int.gcd z 4096 : Int))
 generalize (Int.gcd z 4096 : Int) = g at *
 obtain ⟨u,hu⟩:=dn
 obtain ⟨v,hv⟩:=dd
 rw [hu,hv,Int.mul_ediv_cancel_left _ (by omega),Int.mul_ediv_cancel_left _ (by omega)]
 grind
theorem vmul {a b z : Int × Int} {A B α β : Int} (ha : 0 < a.2) (hb : 0 < b.2) (h1 : a.1 * A = α * a.2) (h2 : b.1 * B = β * b.2) (h : z.1 * (a.2 * b.2) = a.1 * b.1 * z.2) : z.1 * (A * B) = α * β * z.2:=by
 have p:=Int.mul_pos ha hb
 refine Int.eq_of_mul_eq_mul_right (a:=a.2 * b.2) (by omega) ?_
 calc z.1 * (A * B) * (a.2 * b.2) = z.1 * (a.2 * b.2) * (A * B):=by grind
  _ = a.1 * b.1 * z.2 * (A * B):=by rw [h]
  _ = (a.1 * A) * (b.1 * B) * z.2:=by grind
  _ = (α * a.2) * (β * b.2) * z.2:=by rw [h1,h2]
  _ = α * β * z.2 * (a.2 * b.2):=by grind
theorem vadd {a b z : Int × Int} {B β : Int} (hb : 0 < b.2) (h2 : b.1 * B = β * b.2) (h : z.1 * (a.2 * b.2) = (a.1 * b.2 + b.1 * a.2) * z.2) : z.1 * (a.2 * B) = (a.1 * B + β * a.2) * z.2:=by
 refine Int.eq_of_mul_eq_mul_right (a:=b.2) (by omega) ?_
 calc z.1 * (a.2 * B) * b.2 = z.1 * (a.2 * b.2) * B:=by grind
  _ = (a.1 * b.2 + b.1 * a.2) * z.2 * B:=by rw [h]
  _ = (a.1 * B * b.2 + (b.1 * B) * a.2) * z.2:=by grind
  _ = (a.1 * B * b.2 + (β * b.2) * a.2) * z.2:=by rw [h2]
  _ = (a.1 * B + β * a.2) * z.2 * b.2:=by grind
theorem bal1 (a b c d e q : Int) : (a * (d * b * 4096) + (c * b - a * d) * e * b) * q = (a * d * 4096 + (c * b - a * d) * e) * q * b:=by grind
theorem bal2 (q b d : Int) : q * (b * d * 4096) * b = q * (b * (d * b * 4096)):=by grind
theorem bal3 (b d : Int) : b * d * 4096 = d * b * 4096:=by grind
theorem pt_some {x y : Int × Int} (hx : Qv x) (hy : Qv y) {re im : Int} (r0 : -9223372036854775808 <= re) (r1 : re <= 9223372036854775807) (i0 : -9223372036854775808 <= im) (i1 : im <= 9223372036854775807) {C : Bx} (h : ptO x y re im = some C) :
  ∃ q r A B,Qv q ∧ Qv r ∧ q.1 * (x.2 * y.2 * 4096) = (x.1 * y.2 * 4096 + (y.1 * x.2 - x.1 * y.2) * re) * q.2 ∧ r.1 * (x.2 * y.2 * 4096) = (y.1 * x.2 - x.1 * y.2) * im * r.2 ∧ oEx q = some A ∧ oEx r = some B ∧ C = ⟨A.a,A.b,B.a,B.b,false⟩:=by
 unfold ptO at h
 simp only [Option.bind_eq_some_iff] at h
 obtain ⟨d,e1,p,e2,q,e3,r,e4,A,e5,B,e6,e7⟩:=h
 have k1:=tq_qv r0 r1
 have k2:=tq_qv i0 i1
 have v1:=tqv re
 have v2:=tqv im
 have hd:=oSub_qv hy hx e1
 have hp:=oMul_qv hd k1 e2
 have hq:=oAdd_qv hx hp e3
 have hr:=oMul_qv hd k2 e4
 have vd:=oQ_val e1 (Int.mul_pos hy.2.2.1 hx.2.2.1)
 have vp:=oQ_val e2 (Int.mul_pos hd.2.2.1 k1.2.2.1)
 have vq:=oQ_val e3 (Int.mul_pos hx.2.2.1 hp.2.2.1)
 have vr:=oQ_val e4 (Int.mul_pos hd.2.2.1 k2.2.2.1)
 refine ⟨q,r,A,B,hq,hr,?_,?_,e5,e6,(Option.some.inj e7).symm⟩
 ·have w1:=vmul hd.2.2.1 k1.2.2.1 vd v1 vp
  have w2:=vadd hp.2.2.1 w1 vq
  have X:=hx.2.2.1
  refine Int.eq_of_mul_eq_mul_right (a:=x.2) (by omega) ?_
  rw [bal2,w2,bal1]
 ·have w1:=vmul hd.2.2.1 k2.2.2.1 vd v2 vr
  rw [bal3]
  exact w1
theorem fl_val {q : Int × Int} {N D : Int} (hq : 0 < q.2) (hD : 0 < D) (h : q.1 * D = N * q.2) : fl q.1 q.2 = fl N D:=by
 have key : ∀ k : Int,k <= fl q.1 q.2 ↔ k <= fl N D:=fun k => by
  rw [le_fl hq,le_fl hD]
  constructor
  ·intro g
   refine Int.le_of_mul_le_mul_right (a:=q.2) ?_ hq
   have:=Int.mul_le_mul_of_nonneg_right g (Int.le_of_lt hD)
   calc k * D * q.2 = k * q.2 * D:=by grind
    _ <= q.1 * 16777216 * D:=this
    _ = (q.1 * D) * 16777216:=by grind
    _ = N * 16777216 * q.2:=by rw [h]; grind
  ·intro g
   refine Int.le_of_mul_le_mul_right (a:=D) ?_ hD
   have:=Int.mul_le_mul_of_nonneg_right g (Int.le_of_lt hq)
   calc k * q.2 * D = k * D * q.2:=by grind
    _ <= N * 16777216 * q.2:=this
    _ = (N * q.2) * 16777216:=by grind
    _ = q.1 * 16777216 * D:=by rw [<- h]; grind
 exact Int.le_antisymm ((key _).1 (Int.le_refl _)) ((key _).2 (Int.le_refl _))
theorem ex_ends {q : Int × Int} (hq : Qv q) {N D : Int} (hD : 0 < D) (h : q.1 * D = N * q.2) {A : Bx} (e : oEx q = some A) : A.a = fl N D ∧ A.b = -fl (-N) D:=by
 unfold oEx at e
 cases hb : bP (Fits (q.1 * 16777216) ∧ ExOk q.1 q.2) with
 | false => rw [hb] at e; cases e
 | true =>
  rw [hb] at e
  cases e
  refine ⟨fl_val hq.2.2.1 hD h,?_⟩
  show -fl (-q.1) q.2 = -fl (-N) D
  rw [fl_val (q:=(-q.1,q.2)) hq.2.2.1 hD (by show -q.1 * D = -N * q.2; rw [Int.neg_mul,Int.neg_mul,h])]
theorem atO_at {re im : Int} : ∀ {a b : List (Int × Int)} {L : List Bx},atO a b re im = some L -> Sofar a b re im L
 | [],_,L,h => by cases h; intro i B hB; simp at hB
 | x :: a,[],L,h => by cases h; intro i B hB; simp at hB
 | x :: a,y :: b,L,h => by
  unfold atO at h
  cases e : ptO x y re im with
  | none => rw [e] at h; cases h
  | some B =>
   rw [e,Option.bind_some] at h
   cases e2 : atO a b re im with
   | none => rw [e2] at h; cases h
   | some l =>
    rw [e2] at h
    cases h
    intro i C hC
    cases i with
    | zero => cases hC; exact ⟨x,y,rfl,rfl,e⟩
    | succ i =>
     obtain ⟨x',y',h1,h2,h3⟩:=atO_at e2 i C hC
     exact ⟨x',y',h1,h2,h3⟩
theorem brow_inj {L M : List Bx} (h : brow L = brow M) : L = M:=by
 unfold brow at h
 refine (List.map_inj_right fun x y e => ?_).1 h
 obtain ⟨a,b,c,d,w⟩:=x
 obtain ⟨a',b',c',d',w'⟩:=y
 simp only [Bx.cs,List.cons.injEq,AV.int.injEq,AV.bool.injEq,and_true,true_and] at e
 obtain ⟨rfl,rfl,rfl,rfl,rfl⟩:=e
 rfl
theorem at_some {l m : Ps} {re im : Int} {L : List Bx} (h : AtAns l m re im (.tup [.sl (brow L),.int .i64 0])) : ∃ a b,l = qrow a ∧ m = qrow b ∧ Qvs a ∧ Qvs b ∧ (b.length = a.length ∧ a.length <= 20) ∧ timeB re im = true ∧ atO a b re im = some L:=by
 rcases h with ⟨_,h⟩ | ⟨a,b,h1,h2,h3,h4,h5,h6,h7,h⟩
 ·simp only [AV.tup.injEq,List.cons.injEq,AV.int.injEq,and_true,true_and] at h
  exact absurd h.2 (by decide)
 ·cases e : atO a b re im with
  | none =>
   rw [e] at h
   simp only [atAV,AV.tup.injEq,List.cons.injEq,AV.int.injEq,and_true,true_and] at h
   exact absurd h.2 (by decide)
  | some M =>
   rw [e] at h
   simp only [atAV,AV.tup.injEq,List.cons.injEq,AV.sl.injEq,and_true] at h
   exact ⟨a,b,h1,h2,h3,h4,⟨h6,h5⟩,h7,by rw [e,brow_inj h]⟩
theorem qrow_eq {a b : List (Int × Int)} (h : qrow a = qrow b) : a = b:=by
 unfold qrow at h
 refine (List.map_inj_right fun x y e => ?_).1 h
 obtain ⟨h1,h2⟩:=qr_inj e
 exact Prod.ext h1 h2
end Ab
