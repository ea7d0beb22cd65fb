import Derived.Test.YtpjjbhhoagocjaaGreatDoorXDig
namespace Dg
structure Est (P vlow v2 vt wlow w2 top T q r : Int) : Prop where
 e : q * vt + r = top
 r0 : 0 <= r
 r1 : r < B
 up : T <= q
variable {P vlow v2 vt wlow w2 top T q r : Int}
theorem mul_lt_cancel {a b c : Int} (hc : 0 < c) (h : a * c < b * c) : a < b:=Int.lt_of_mul_lt_mul_right h (Int.le_of_lt hc)
theorem est_init (hP : 0 < P) (hvl : 0 <= vlow) (hv2 : 0 <= v2) (hvt : 0 < vt) (hvtB : vt < B) (hwl : wlow < P) (hw2 : w2 < B) (hT0 : 0 <= T)
  (hT : T * (vlow + P * (v2 + B * vt)) <= wlow + P * (w2 + B * top)) : Est P vlow v2 vt wlow w2 top T (top / vt) (top % vt):=by
 refine ⟨by have:=Int.mul_ediv_add_emod top vt; rw [Int.mul_comm] at this; exact this,Int.emod_nonneg _ (by omega),Int.lt_trans (Int.emod_lt_of_pos _ hvt) hvtB,?_⟩
 refine (Int.le_ediv_iff_mul_le hvt).2 ?_
 refine Int.not_lt.1 fun h => ?_
 have h1 : (top + 1) * B <= T * vt * B:=Int.mul_le_mul_of_nonneg_right h (by decide)
 have h2 : 0 <= T * vlow:=Int.mul_nonneg hT0 hvl
 have h3 : 0 <= T * v2:=Int.mul_nonneg hT0 hv2
 have h4 : P * (T * vt * B) ≥ P * ((top + 1) * B):=Int.mul_le_mul_of_nonneg_left h1 (Int.le_of_lt hP)
 have h5 : 0 <= P * (T * v2):=Int.mul_nonneg (Int.le_of_lt hP) h3
 have e : T * (vlow + P * (v2 + B * vt)) = T * vlow + P * (T * v2) + P * (T * vt * B):=by grind
 have h6 : P * (w2 + B * top) + P <= P * ((top + 1) * B):=by
  have : P * (w2 + 1) <= P * B:=Int.mul_le_mul_of_nonneg_left (by omega) (Int.le_of_lt hP)
  have e2 : P * ((top + 1) * B) = P * (B * top) + P * B:=by grind
  have e3 : P * (w2 + B * top) + P = P * (B * top) + P * (w2 + 1):=by grind
  omega
 omega
theorem est_next (h : Est P vlow v2 vt wlow w2 top T q r) (hP : 0 < P) (hvl : 0 <= vlow) (hwl : wlow < P) (hTB : T < B) (hT0 : 0 <= T)
  (hT : T * (vlow + P * (v2 + B * vt)) <= wlow + P * (w2 + B * top)) (h2 : B <= q ∨ r * B + w2 < q * v2) : 1 <= q∧(q - 1) * vt + (r + vt) = top∧T <= q - 1:=by
 have hup:=h.up
 have e:=h.e
 have key : T <= q - 1:=by
  rcases h2 with h2 | h2
  ·omega
  ·refine Int.not_lt.1 fun g => ?_
   obtain rfl : T = q:=by omega
   have h3 : w2 + B * top + 1 <= T * (v2 + B * vt):=by
    have : T * (v2 + B * vt) = T * v2 + B * (T * vt):=by grind
    have : B * top = B * (T * vt) + B * r:=by rw [<- e]; grind
    grind
   have h4 : P * (w2 + B * top + 1) <= P * (T * (v2 + B * vt)):=Int.mul_le_mul_of_nonneg_left h3 (Int.le_of_lt hP)
   have h5 : 0 <= T * vlow:=Int.mul_nonneg hT0 hvl
   have e2 : T * (vlow + P * (v2 + B * vt)) = T * vlow + P * (T * (v2 + B * vt)):=by grind
   have e3 : P * (w2 + B * top + 1) = P * (w2 + B * top) + P:=by grind
   omega
 refine ⟨by omega,?_,key⟩
 rw [Int.sub_mul,Int.one_mul]; omega
theorem est_end (e : q * vt + r = top) (h2 : q * v2 <= r * B + w2) (hq : q < B) (hP : 0 < P) (hvl : vlow < P) (hvl0 : 0 <= vlow) (hwl : 0 <= wlow) (hv2 : 0 <= v2) (hvt : 0 < vt) (hq0 : 0 <= q)
  (hT : wlow + P * (w2 + B * top) < (T + 1) * (vlow + P * (v2 + B * vt))) : q <= T + 1:=by
 refine Int.not_lt.1 fun g => ?_
 obtain ⟨V,hV⟩ : ∃ V,V = vlow + P * (v2 + B * vt):=⟨_,rfl⟩
 rw [<- hV] at hT
 have h3 : q * (v2 + B * vt) <= w2 + B * top:=by
  have : q * (v2 + B * vt) = q * v2 + B * (q * vt):=by grind
  have : B * top = B * (q * vt) + B * r:=by rw [<- e]; grind
  grind
 have h4 : P * (q * (v2 + B * vt)) <= P * (w2 + B * top):=Int.mul_le_mul_of_nonneg_left h3 (Int.le_of_lt hP)
 have h5 : q * vlow <= q * P:=Int.mul_le_mul_of_nonneg_left (Int.le_of_lt hvl) hq0
 have h6 : q * P <= B * P:=Int.mul_le_mul_of_nonneg_right (Int.le_of_lt hq) (Int.le_of_lt hP)
 have h7 : B * P <= V:=by
  have a : P * (B * 1) <= P * (v2 + B * vt):=Int.mul_le_mul_of_nonneg_left (by
   have : B * 1 <= B * vt:=Int.mul_le_mul_of_nonneg_left (by omega) (by decide)
   omega) (Int.le_of_lt hP)
  rw [hV]
  have : P * (B * 1) = B * P:=by grind
  omega
 have e4 : q * V = q * vlow + P * (q * (v2 + B * vt)):=by rw [hV]; grind
 have h8 : (T + 2) * V <= q * V:=Int.mul_le_mul_of_nonneg_right (by omega) (by
  have : 0 < B * P:=Int.mul_pos (by decide) hP
  omega)
 have e5 : (T + 2) * V = (T + 1) * V + V:=by grind
 omega
theorem est_break (e : q * vt + r = top) (hr : B <= r) (htop : top < B * vt + B) (hvt : 0 < vt) (hv2 : v2 < B) (hw2 : 0 <= w2) (hv20 : 0 <= v2) : q < B∧q * v2 <= r * B + w2:=by
 have hq : q < B:=by
  refine mul_lt_cancel hvt ?_
  omega
 refine ⟨hq,?_⟩
 by_cases h0 : 0 <= q
 ·have h1 : q * v2 <= B * B:=Int.mul_le_mul (by omega) (by omega) hv20 (by decide)
  have h2 : B * B <= r * B:=Int.mul_le_mul_of_nonneg_right hr (by decide)
  omega
 ·have h1 : q * v2 <= 0:=Int.mul_nonpos_of_nonpos_of_nonneg (by omega) hv20
  have h2 : 0 <= r * B:=Int.mul_nonneg (by simp only [B] at hr ⊢; omega) (by decide)
  omega
structure DH (P vlow v2 vt wlow w2 top T : Int) : Prop where
 hP : 0 < P
 hvl : 0 <= vlow∧vlow < P
 hv2 : 0 <= v2∧v2 < B
 hvt : 0 < vt∧vt < B
 hwl : 0 <= wlow∧wlow < P
 hw2 : 0 <= w2∧w2 < B
 htop : 0 <= top∧top < B * vt + B
 hT : 0 <= T∧T < B
 lo : T * (vlow + P * (v2 + B * vt)) <= wlow + P * (w2 + B * top)
 hi : wlow + P * (w2 + B * top) < (T + 1) * (vlow + P * (v2 + B * vt))
def digF (v2 vt w2 : Int) : Nat -> Int -> Int -> Int
 | 0,q,_ => q
 | k + 1,q,r => if B <= q ∨ r * B + w2 < q * v2 then (if B <= r + vt then q - 1 else digF v2 vt w2 k (q - 1) (r + vt)) else q
theorem digF_ok (h : DH P vlow v2 vt wlow w2 top T) : ∀ (k : Nat) (q r : Int),q.toNat < k -> Est P vlow v2 vt wlow w2 top T q r -> T <= digF v2 vt w2 k q r∧digF v2 vt w2 k q r <= T + 1∧digF v2 vt w2 k q r < B
 | 0,q,r,hk,_ => by omega
 | k + 1,q,r,hk,he => by
   have hTup:=he.up
   unfold digF
   by_cases h2 : B <= q ∨ r * B + w2 < q * v2
   ·rw [if_pos h2]
    obtain ⟨g1,g2,g3⟩:=est_next he h.hP h.hvl.1 h.hwl.2 h.hT.2 h.hT.1 h.lo h2
    by_cases h3 : B <= r + vt
    ·rw [if_pos h3]
     obtain ⟨b1,b2⟩:=est_break (w2:=w2) g2 h3 h.htop.2 h.hvt.1 h.hv2.2 h.hw2.1 h.hv2.1
     exact ⟨g3,est_end g2 b2 b1 h.hP h.hvl.2 h.hvl.1 h.hwl.1 h.hv2.1 h.hvt.1 (by omega) h.hi,b1⟩
    ·rw [if_neg h3]
     exact digF_ok h k (q - 1) (r + vt) (by omega) ⟨g2,by have:=he.r0; have:=h.hvt.1; omega,by omega,g3⟩
   ·rw [if_neg h2]
    have h3 : q < B:=by omega
    exact ⟨hTup,est_end he.e (by omega) h3 h.hP h.hvl.2 h.hvl.1 h.hwl.1 h.hv2.1 h.hvt.1 (by have:=h.hT.1; omega) h.hi,h3⟩
def digR (v2 vt w2 top : Int) : Int:=digF v2 vt w2 ((top / vt).toNat + 1) (top / vt) (top % vt)
theorem DH.init (h : DH P vlow v2 vt wlow w2 top T) : Est P vlow v2 vt wlow w2 top T (top / vt) (top % vt):=est_init h.hP h.hvl.1 h.hv2.1 h.hvt.1 h.hvt.2 h.hwl.2 h.hw2.2 h.hT.1 h.lo
theorem digR_ok (h : DH P vlow v2 vt wlow w2 top T) : T <= digR v2 vt w2 top∧digR v2 vt w2 top <= T + 1∧digR v2 vt w2 top < B:=digF_ok h _ _ _ (by omega) h.init
theorem drop_getD (l : List Int) (j k : Nat) : (l.drop j).getD k 0 = l.getD (j + k) 0:=by
 rw [List.getD_eq_getElem?_getD,List.getD_eq_getElem?_getD,List.getElem?_drop]
theorem split_getD {l : List Int} {i : Nat} (h : i < l.length) : val l = val (l.take i) + B ^ i * (l.getD i 0 + B * val (l.drop (i + 1))):=by
 refine val_split ?_
 rw [List.getD_eq_getElem?_getD,List.getElem?_eq_getElem h]; rfl
theorem drop_split {l : List Int} {i : Nat} (h : i < l.length) : val (l.drop i) = l.getD i 0 + B * val (l.drop (i + 1)):=by
 rw [List.drop_eq_getElem_cons h,val,List.getD_eq_getElem?_getD,List.getElem?_eq_getElem h]; rfl
theorem take_drop_val (l : List Int) (i : Nat) (h : i <= l.length) : val l = val (l.take i) + B ^ i * val (l.drop i):=by
 have:=val_app (l.take i) (l.drop i)
 rw [List.take_append_drop,List.length_take,Nat.min_eq_left h] at this
 exact this
theorem dec_v {l : List Int} {n : Nat} (hn : 2 <= n) (hl : l.length = n) : val l = val (l.take (n - 2)) + B ^ (n - 2) * (l.getD (n - 2) 0 + B * l.getD (n - 1) 0):=by
 rw [split_getD (l:=l) (i:=n - 2) (by omega),show n - 2 + 1 = n - 1 by omega,drop_split (i:=n - 1) (by omega),List.drop_eq_nil_of_le (by omega)]
 simp [val]
theorem dec_w {l : List Int} {n : Nat} (hD : D l) (hn : 2 <= n) (hl : n < l.length) (hv : val l < B ^ (n + 1)) : val l = val (l.take (n - 2)) + B ^ (n - 2) * (l.getD (n - 2) 0 + B * (l.getD n 0 * B + l.getD (n - 1) 0)):=by
 have h0 : val (l.drop (n + 1)) = 0:=by
  have h1:=take_drop_val l (n + 1) (by omega)
  have h2:=val_nonneg (hD.drop (n + 1))
  have h3:=(val_take_lt hD (n + 1)).1
  have p:=pow_pos (n + 1)
  refine Int.le_antisymm (Int.not_lt.1 fun g => ?_) h2
  have : B ^ (n + 1) * 1 <= B ^ (n + 1) * val (l.drop (n + 1)):=Int.mul_le_mul_of_nonneg_left g (Int.le_of_lt p)
  omega
 rw [split_getD (l:=l) (i:=n - 2) (by omega),show n - 2 + 1 = n - 1 by omega,drop_split (i:=n - 1) (by omega),show n - 1 + 1 = n by omega,drop_split (i:=n) hl,h0]
 grind
theorem dh_of {u v : List Int} {j n : Nat} (hu : D u) (hv : D v) (hn : 2 <= n) (hl : v.length = n) (hj : j + n < u.length) (ht : v.getD (n - 1) 0 ≠ 0) (hW : val (u.drop j) < val v * B) :
  DH (B ^ (n - 2)) (val (v.take (n - 2))) (v.getD (n - 2) 0) (v.getD (n - 1) 0) (val ((u.drop j).take (n - 2))) (u.getD (j + (n - 2)) 0) (u.getD (j + n) 0 * B + u.getD (j + (n - 1)) 0) (val (u.drop j) / val v):=by
 have hdl : (u.drop j).length = u.length - j:=List.length_drop ..
 have e1:=dec_v hn hl
 have hVlt:=val_lt hv
 rw [hl] at hVlt
 have hWlt : val (u.drop j) < B ^ (n + 1):=by
  refine Int.lt_trans hW ?_
  rw [Int.pow_succ]
  exact Int.mul_lt_mul_of_pos_right hVlt (by decide)
 have e2:=dec_w (hu.drop j) hn (by omega) hWlt
 rw [drop_getD,drop_getD,drop_getD] at e2
 have p:=pow_pos (n - 2)
 have a1:=val_take_lt hv (n - 2)
 have a2:=getD_bd hv (n - 2)
 have a3:=getD_bd hv (n - 1)
 have a4:=val_take_lt (hu.drop j) (n - 2)
 have a5:=getD_bd hu (j + (n - 2))
 have a6:=getD_bd hu (j + n)
 have a7:=getD_bd hu (j + (n - 1))
 have hW0:=val_nonneg (hu.drop j)
 have hV0 : 0 < val v:=by
  rw [e1]
  have : 0 < B ^ (n - 2) * (v.getD (n - 2) 0 + B * v.getD (n - 1) 0):=Int.mul_pos p (by simp only [B] at *; omega)
  omega
 generalize hWe : val (u.drop j) = W at *
 generalize hVe : val v = V at *
 generalize val (v.take (n - 2)) = vlow at *
 generalize val ((u.drop j).take (n - 2)) = wlow at *
 generalize v.getD (n - 2) 0 = v2 at *
 generalize v.getD (n - 1) 0 = vt at *
 generalize u.getD (j + (n - 2)) 0 = w2 at *
 generalize u.getD (j + n) 0 = wn at *
 generalize u.getD (j + (n - 1)) 0 = w1 at *
 generalize B ^ (n - 2) = P at *
 have htop0 : 0 <= wn * B + w1:=by have:=Int.mul_nonneg a6.1 (show (0 : Int) <= B by decide); omega
 refine ⟨p,a1,a2,⟨by omega,a3.2⟩,a4,a5,⟨htop0,?_⟩,⟨Int.ediv_nonneg hW0 (by omega),Int.ediv_lt_of_lt_mul hV0 (by rw [Int.mul_comm]; exact hW)⟩,?_,?_⟩
 ·refine mul_lt_cancel (c:=P * B) (Int.mul_pos p (by decide)) ?_
  have h1 : (wn * B + w1) * (P * B) <= W:=by
   have : 0 <= P * w2:=Int.mul_nonneg (Int.le_of_lt p) a5.1
   have : P * (w2 + B * (wn * B + w1)) = P * w2 + (wn * B + w1) * (P * B):=by grind
   omega
  have h2 : V * B <= (B * vt + B) * (P * B):=by
   have h3 : V <= P * (B * vt + B):=by
    have : P * (v2 + B * vt + 1) <= P * (B * vt + B):=Int.mul_le_mul_of_nonneg_left (by omega) (Int.le_of_lt p)
    have : P * (v2 + B * vt + 1) = P * (v2 + B * vt) + P:=by grind
    omega
   have h4 : V * B <= P * (B * vt + B) * B:=Int.mul_le_mul_of_nonneg_right h3 (by decide)
   have : P * (B * vt + B) * B = (B * vt + B) * (P * B):=by grind
   omega
  omega
 ·rw [<- e1,<- e2]
  exact Int.ediv_mul_le W (by omega)
 ·rw [<- e1,<- e2]
  exact Int.lt_ediv_add_one_mul_self W hV0
theorem set_take_same (u : List Int) {j k : Nat} (x : Int) (h : j <= k) : (u.set k x).take j = u.take j:=by
 rw [List.take_set]
 exact List.set_eq_of_length_le (by rw [List.length_take]; omega)
theorem getD_set_ne (u : List Int) {i k : Nat} (x : Int) (h : i ≠ k) : (u.set i x).getD k 0 = u.getD k 0:=by
 rw [List.getD_eq_getElem?_getD,List.getD_eq_getElem?_getD,List.getElem?_set_ne h]
theorem drop_same {u w : List Int} {m : Nat} (hl : w.length = u.length) (h : ∀ k,m <= k -> w.getD k 0 = u.getD k 0) : w.drop m = u.drop m:=by
 apply List.ext_getElem?
 intro i
 rw [List.getElem?_drop,List.getElem?_drop]
 have:=h (m + i) (by omega)
 rw [List.getD_eq_getElem?_getD,List.getD_eq_getElem?_getD] at this
 by_cases hi : m + i < u.length
 ·rw [List.getElem?_eq_getElem (by omega),List.getElem?_eq_getElem hi] at this ⊢
  simpa using this
 ·rw [List.getElem?_eq_none (by omega),List.getElem?_eq_none (by omega)]
theorem sub_step {X Y q V vi ui c b p d U' U : Int} (hp : p = q * vi + c) (hd : d = ui - p % B - b) (h : U' + Y * (q * V) = U + X * Y * (c + b)) :
  U' + X * Y * (d % B - ui) + Y * (q * (V + X * vi)) = U + X * B * Y * (p / B + -(d / B)):=by
 have e1:=Int.emod_add_mul_ediv p B
 have e2:=Int.emod_add_mul_ediv d B
 generalize p % B = p1 at *
 generalize p / B = p2 at *
 generalize d % B = d1 at *
 generalize d / B = d2 at *
 subst hp hd
 grind
theorem add_step {X Y V vi ui c t U' U : Int} (ht : t = ui + vi + c) (h : U' + X * Y * c = U + Y * V) : U' + X * Y * (t % B - ui) + X * B * Y * (t / B) = U + Y * (V + X * vi):=by
 have e1:=Int.emod_add_mul_ediv t B
 generalize t % B = p1 at *
 generalize t / B = p2 at *
 subst ht
 grind
theorem window {u w : List Int} {j : Nat} {D : Int} (hl : w.length = u.length) (hj : j <= u.length) (ht : w.take j = u.take j) (hv : val w = val u - B ^ j * D) : val (w.drop j) = val (u.drop j) - D:=by
 have a:=take_drop_val u j hj
 have b:=take_drop_val w j (by omega)
 rw [ht] at b
 have p:=pow_pos j
 have : B ^ j * (val (w.drop j) - (val (u.drop j) - D)) = 0:=by rw [Int.mul_sub,Int.mul_sub]; omega
 rcases Int.mul_eq_zero.1 this with e | e <;> omega
theorem drop_lt {w : List Int} {j n : Nat} (hw : D w) (hj : j + n + 1 <= w.length) (h : val (w.drop (j + n + 1)) = 0) : val (w.drop j) < B ^ (n + 1):=by
 have a:=take_drop_val (w.drop j) (n + 1) (by rw [List.length_drop]; omega)
 rw [List.drop_drop,show j + (n + 1) = j + n + 1 by omega,h,Int.mul_zero,Int.add_zero] at a
 rw [a]
 exact (val_take_lt (hw.drop j) (n + 1)).2
theorem drop_zero {u : List Int} {j n : Nat} (hu : D u) (hj : j + n + 1 <= u.length) (h : val (u.drop j) < B ^ (n + 1)) : val (u.drop (j + n + 1)) = 0:=by
 have a:=take_drop_val (u.drop j) (n + 1) (by rw [List.length_drop]; omega)
 rw [List.drop_drop,show j + (n + 1) = j + n + 1 by omega] at a
 have b:=(val_take_lt (hu.drop j) (n + 1)).1
 have c:=val_nonneg (hu.drop (j + n + 1))
 have p:=pow_pos (n + 1)
 refine Int.le_antisymm (Int.not_lt.1 fun g => ?_) c
 have : B ^ (n + 1) * 1 <= B ^ (n + 1) * val (u.drop (j + n + 1)):=Int.mul_le_mul_of_nonneg_left g (Int.le_of_lt p)
 omega
structure TakeOk (u w : List Int) (j : Nat) (D' : Int) : Prop where
 d : D w
 l : w.length = u.length
 t : w.take j = u.take j
 v : val w = val u - B ^ j * D'
theorem take_end1 {u w : List Int} {j : Nat} {q V : Int} (hw : D w) (hl : w.length = u.length) (hj : j <= u.length) (ht : w.take j = u.take j) (hV : 0 < V) (h1 : val (u.drop j) / V <= q) (hv : val w = val u - B ^ j * (q * V)) : q = val (u.drop j) / V:=by
 have a:=window hl hj ht hv
 have b:=val_nonneg (hw.drop j)
 have : q <= val (u.drop j) / V:=(Int.le_ediv_iff_mul_le hV).2 (by omega)
 omega
theorem take_neg {u w : List Int} {j n : Nat} {q V : Int} (hw : D w) (hl : w.length = u.length) (hj : j + n + 1 <= u.length) (ht : w.take j = u.take j) (hV : 0 < V) (h2 : q <= val (u.drop j) / V + 1) (hz : val (w.drop (j + n + 1)) = 0)
  (hv : val w = val u - B ^ j * (q * V - B ^ (n + 1))) : q - 1 = val (u.drop j) / V:=by
 have a:=window hl (by omega) ht hv
 have b:=drop_lt hw (by omega) hz
 have : ¬ q <= val (u.drop j) / V:=fun g => by
  have:=(Int.le_ediv_iff_mul_le hV).1 g
  omega
 omega
theorem take_end2 {u w : List Int} {j n : Nat} {q V k : Int} (hw : D w) (hl : w.length = u.length) (hj : j + n + 1 <= u.length) (ht : w.take j = u.take j) (hV : 0 < V) (hq : q - 1 = val (u.drop j) / V) (hz : val (w.drop (j + n + 1)) = 0)
  (hk : k = 0 ∨ k = 1) (hv : val w = val u - B ^ j * ((q - 1) * V - B ^ (n + 1) * (1 - k))) : val w = val u - B ^ j * ((q - 1) * V):=by
 rcases hk with rfl | rfl
 ·exfalso
  have a:=window hl (by omega) ht hv
  have b:=drop_lt hw (by omega) hz
  have c : (q - 1) * V <= val (u.drop j):=by rw [hq]; exact Int.ediv_mul_le _ (by omega)
  simp only [Int.sub_zero,Int.mul_one] at a
  omega
 ·rw [hv]; simp
end Dg
