import Derived.Test.YtpjjbhhoagocjaaGreatDoorXGub
import Derived.Test.YtpjjbhhoagocjaaGreatDoorXBdC
section
open Go Go.Proofs
namespace Ab
set_option maxRecDepth 100000
set_option maxHeartbeats 1000000
theorem fits_sz {z : Int} (h : z.natAbs <= SZ) : Fits z:=by
 refine fits_lt ?_
 have h1:=two_pow_B (n:=4001) (k:=128) (by decide)
 have h2 : ((SZ : Nat) : Int) < 2 ^ 4001:=by unfold SZ; decide +kernel
 unfold az
 omega
theorem Bd.rf {d N : Nat} {a : Rat} (ha : Bd d N a) (h : N + d <= SZ) : RF a:=by
 have:=ha.fit
 exact ⟨fits_sz (by omega),fits_sz (by rw [Int.natAbs_natCast]; omega)⟩
theorem sz_all {d N e M : Nat} (h : (N + d) * (M + e) <= SZ) (hd : 0 < d) (he : 0 < e) : N + d <= SZ∧M + e <= SZ∧N * e + M * d <= SZ∧N * M <= SZ∧d * e <= SZ:=by
 have h1 : (N + d) * 1 <= (N + d) * (M + e):=Nat.mul_le_mul_left _ (by omega)
 have h2 : 1 * (M + e) <= (N + d) * (M + e):=Nat.mul_le_mul_right _ (by omega)
 have h3 : (N + d) * (M + e) = N * M + N * e + (M * d + d * e):=by
  rw [Nat.add_mul,Nat.mul_add,Nat.mul_add,Nat.mul_comm d M]
 omega
section
variable {d N e M : Nat} {a b : Rat} (ha : Bd d N a) (hb : Bd e M b) (h : (N + d) * (M + e) <= SZ)
include ha hb h
theorem bd_fa : FA a b:=by
 obtain ⟨h1,h2,h3,h4,h5⟩:=sz_all h ha.1 hb.1
 obtain ⟨a1,a2⟩:=ha.fit
 obtain ⟨b1,b2⟩:=hb.fit
 have c1 : (a.num * b.den).natAbs <= N * e:=by rw [Int.natAbs_mul]; exact Nat.mul_le_mul a1 b2
 have c2 : (b.num * a.den).natAbs <= M * d:=by rw [Int.natAbs_mul]; exact Nat.mul_le_mul b1 a2
 have c3 : ((a.den : Int) * b.den).natAbs <= d * e:=by rw [Int.natAbs_mul]; exact Nat.mul_le_mul a2 b2
 exact ⟨ha.rf h1,hb.rf h2,fits_sz (by omega),fits_sz (by omega),fits_sz (by omega),fits_sz (by omega)⟩
theorem bd_fs : FS a b:=by
 obtain ⟨h1,h2,h3,h4,h5⟩:=sz_all h ha.1 hb.1
 obtain ⟨a1,a2⟩:=ha.fit
 obtain ⟨b1,b2⟩:=hb.fit
 have c1 : (a.num * b.den).natAbs <= N * e:=by rw [Int.natAbs_mul]; exact Nat.mul_le_mul a1 b2
 have c2 : (b.num * a.den).natAbs <= M * d:=by rw [Int.natAbs_mul]; exact Nat.mul_le_mul b1 a2
 have c3 : ((a.den : Int) * b.den).natAbs <= d * e:=by rw [Int.natAbs_mul]; exact Nat.mul_le_mul a2 b2
 exact ⟨ha.rf h1,hb.rf h2,fits_sz (by omega),fits_sz (by omega),fits_sz (by omega),fits_sz (by omega)⟩
theorem bd_fm : FM a b:=by
 obtain ⟨h1,h2,h3,h4,h5⟩:=sz_all h ha.1 hb.1
 obtain ⟨a1,a2⟩:=ha.fit
 obtain ⟨b1,b2⟩:=hb.fit
 have c1 : (a.num * b.num).natAbs <= N * M:=by rw [Int.natAbs_mul]; exact Nat.mul_le_mul a1 b1
 have c3 : ((a.den : Int) * b.den).natAbs <= d * e:=by rw [Int.natAbs_mul]; exact Nat.mul_le_mul a2 b2
 exact ⟨ha.rf h1,hb.rf h2,fits_sz (by omega),fits_sz (by omega)⟩
theorem bd_fd (h0 : b ≠ 0) : FD a b:=by
 obtain ⟨h1,h2,h3,h4,h5⟩:=sz_all h ha.1 hb.1
 obtain ⟨a1,a2⟩:=ha.fit
 obtain ⟨b1,b2⟩:=hb.fit
 have c1 : (a.num * b.den).natAbs <= N * e:=by rw [Int.natAbs_mul]; exact Nat.mul_le_mul a1 b2
 have c2 : ((a.den : Int) * b.num).natAbs <= M * d:=by rw [Int.natAbs_mul,Nat.mul_comm]; exact Nat.mul_le_mul b1 a2
 exact ⟨ha.rf h1,hb.rf h2,h0,fits_sz (by omega),fits_sz (by omega)⟩
end
theorem sz_mono {x y z w : Nat} (h : z * w <= SZ) (h1 : x <= z) (h2 : y <= w) : x * y <= SZ:=Nat.le_trans (Nat.mul_le_mul h1 h2) h
def BdL (d N : Nat) (p : List Rat) : Prop:=∀ i,Bd d N (cf p i)
theorem bdl_of {d N : Nat} {p : List Rat} (h : 0 < d) (h2 : ∀ i,i < p.length -> Bd d N (cf p i)) : BdL d N p:=by
 intro i
 by_cases e : i < p.length
 ·exact h2 i e
 ·rw [cf_out (by omega)]; exact bd_zero h
theorem bdl_nil {d N : Nat} (h : 0 < d) : BdL d N []:=bdl_of h (fun _ h => (by cases h))
theorem BdL.rf {d N : Nat} {p : List Rat} (h : BdL d N p) (hs : N + d <= SZ) : AllRF p:=by
 intro r hr
 obtain ⟨i,hi,rfl⟩:=List.mem_iff_getElem.1 hr
 have:=h i
 rw [show cf p i = p[i] by simp [cf,List.getD,List.getElem?_eq_getElem hi]] at this
 exact this.rf hs
theorem psum_bd {d N : Nat} {f : Nat -> Rat} (h0 : 0 < d) (h : ∀ i,Bd d N (f i)) : ∀ n,Bd d (n * N) (psum n f)
 | 0 => bd_zero h0
 | n + 1 => by
  have:=(psum_bd h0 h n).add (h n)
  rw [Nat.succ_mul]
  exact this
theorem mulOk_bd {d N e M : Nat} {p q : List Rat} (hp : BdL d N p) (hq : BdL e M q) (hl : p.length + q.length <= 66) (h1 : (N + d) * (M + e) <= SZ) (h2 : (66 * (N * M) + d * e) * (N * M + d * e) <= SZ) : MulOk p q where
 m:=fun k i _ _ _ => bd_fm (hp i) (hq (k - i)) h1
 a:=fun k i _ hi _ => bd_fa (psum_bd (N:=N * M) (Nat.mul_pos (hp 0).1 (hq 0).1) (fun j => (hp j).mul (hq (k - j))) i) ((hp i).mul (hq (k - i)))
  (sz_mono h2 (Nat.add_le_add_right (Nat.mul_le_mul_right _ (by omega)) _) (Nat.le_refl _))
theorem cf_range {f : Nat -> Rat} {n i : Nat} (h : i < n) : cf ((List.range n).map f) i = f i:=by simp [cf,List.getD,h]
theorem cf_mulP (p q : List Rat) (k : Nat) : cf (mulP p q) k = cnv (cf p) (cf q) k:=by
 unfold mulP
 by_cases h : p.length = 0 ∨ q.length = 0
 ·rw [if_pos h,cf_out (p:=[]) (Nat.zero_le _)]
  refine (psum_zero fun i hi => ?_).symm
  rcases h with h | h
  ·rw [cf_out (p:=p) (by omega),Rat.zero_mul]
  ·rw [cf_out (p:=q) (by omega),Rat.mul_zero]
 ·rw [if_neg h]
  by_cases e : k < p.length + q.length - 1
  ·rw [cf_range e]; rfl
  ·rw [cf_out (by simp; omega)]
   refine (psum_zero fun i hi => ?_).symm
   by_cases e2 : i < p.length
   ·rw [cf_out (p:=q) (by omega),Rat.mul_zero]
   ·rw [cf_out (p:=p) (by omega),Rat.zero_mul]
theorem mulP_len (p q : List Rat) : (mulP p q).length <= p.length + q.length - 1:=by
 unfold mulP; split <;> simp
theorem cf_take {p : List Rat} {n i : Nat} (h : i < n) : cf (p.take n) i = cf p i:=by simp [cf,List.getD,h]
theorem clipN_spec (p : List Rat) : ∀ k,k <= p.length -> (∀ i,k <= i -> cf p i = 0) -> (∀ i,cf (clipN p k) i = cf p i)∧(clipN p k).length <= k∧∀ h : clipN p k ≠ [],(clipN p k).getLast h ≠ 0
 | 0,_,h => ⟨fun i => (h i (Nat.zero_le _)).symm ▸ cf_out (Nat.zero_le _),Nat.le_refl _,fun h => absurd rfl h⟩
 | k + 1,hk,h => by
  by_cases e : p.getD k 0 = 0
  ·rw [show clipN p (k + 1) = clipN p k from if_pos e]
   have:=clipN_spec p k (by omega) fun i hi => if e2 : i = k then e2 ▸ e else h i (by omega)
   exact ⟨this.1,by omega,this.2.2⟩
  ·rw [show clipN p (k + 1) = p.take (k + 1) from if_neg e]
   have hl : (p.take (k + 1)).length = k + 1:=by rw [List.length_take]; omega
   refine ⟨fun i => ?_,by omega,fun hn => ?_⟩
   ·by_cases e2 : i < k + 1
    ·exact cf_take e2
    ·rw [cf_out (by omega),h i (by omega)]
   ·rw [List.getLast_eq_getElem]
    simp only [hl]
    intro h0
    apply e
    simp only [Nat.add_sub_cancel,List.getElem_take] at h0
    simp [List.getD,List.getElem?_eq_getElem (show k < p.length by omega),h0]
theorem cf_clip (p : List Rat) (i : Nat) : cf (clipP p) i = cf p i:=(clipN_spec p p.length (Nat.le_refl _) fun _ h => cf_out h).1 i
theorem clip_len (p : List Rat) : (clipP p).length <= p.length:=(clipN_spec p p.length (Nat.le_refl _) fun _ h => cf_out h).2.1
def Lst (p : List Rat) : Prop:=∀ h : p ≠ [],p.getLast h ≠ 0
theorem clip_lst (p : List Rat) : Lst (clipP p):=(clipN_spec p p.length (Nat.le_refl _) fun _ h => cf_out h).2.2
theorem lst_at {p : List Rat} (h : Lst p) {k : Nat} (hk : p.length = k + 1) : cf p k ≠ 0:=by
 have hn : p ≠ []:=by intro e; rw [e] at hk; cases hk
 have:=h hn
 rw [List.getLast_eq_getElem] at this
 simp only [hk,Nat.add_sub_cancel] at this
 simpa [cf,List.getD,List.getElem?_eq_getElem (show k < p.length by omega)] using this
theorem lst_of {p : List Rat} (h : ∀ k,p.length = k + 1 -> cf p k ≠ 0) : Lst p:=by
 intro hn
 rw [List.getLast_eq_getElem]
 have h0 : 0 < p.length:=List.length_pos_iff.2 hn
 have:=h (p.length - 1) (by omega)
 simpa [cf,List.getD,List.getElem?_eq_getElem (show p.length - 1 < p.length by omega)] using this
theorem lst_le {p q : List Rat} (h : Lst p) (hc : ∀ i,cf p i = cf q i) : p.length <= q.length:=by
 rcases Nat.eq_zero_or_pos p.length with e | e
 ·omega
 ·have:=lst_at h (k:=p.length - 1) (by omega)
  rw [hc] at this
  apply Decidable.byContradiction
  intro hn
  exact this (cf_out (by omega))
theorem lst_ext {p q : List Rat} (hp : Lst p) (hq : Lst q) (hc : ∀ i,cf p i = cf q i) : p = q:=by
 have l1:=lst_le hp hc
 have l2:=lst_le hq fun i => (hc i).symm
 refine List.ext_getElem (by omega) fun i h1 h2 => ?_
 have:=hc i
 simpa [cf,List.getD,List.getElem?_eq_getElem h1,List.getElem?_eq_getElem h2] using this
theorem poly_of {d N : Nat} {p : List Rat} (h : BdL d N p) (hs : N + d <= SZ) (hl : p.length <= 65) (ht : Lst p) : Poly p:=⟨h.rf hs,hl,ht⟩
theorem bdl_clip {d N : Nat} {p : List Rat} (h : BdL d N p) : BdL d N (clipP p):=fun i => by rw [cf_clip]; exact h i
theorem mulP_lst {p q : List Rat} (hp : Lst p) (hq : Lst q) : Lst (mulP p q):=by
 refine lst_of fun k hk => ?_
 rw [cf_mulP]
 have h0 : ¬ (p.length = 0 ∨ q.length = 0):=by
  intro h
  unfold mulP at hk
  rw [if_pos h] at hk
  cases hk
 have hl : (mulP p q).length = p.length + q.length - 1:=by unfold mulP; rw [if_neg h0]; simp
 have a:=lst_at hp (k:=p.length - 1) (by omega)
 have b:=lst_at hq (k:=q.length - 1) (by omega)
 unfold cnv
 rw [psum_one (m:=p.length - 1) (by omega) fun i h1 h2 => ?_]
 ·rw [show k - (p.length - 1) = q.length - 1 by omega]
  intro e
  rcases Rat.mul_eq_zero.1 e with e | e
  ·exact a e
  ·exact b e
 ·by_cases e2 : i < p.length
  ·rw [cf_out (p:=q) (by omega),Rat.mul_zero]
  ·rw [cf_out (p:=p) (by omega),Rat.zero_mul]
theorem cf_merge {f : Nat -> Rat} {p q : List Rat} (hf : ∀ j,p.length <= j -> q.length <= j -> f j = 0) (i : Nat) : cf (mergeP f p q) i = f i:=by
 unfold mergeP
 rw [cf_clip]
 by_cases e : i < max p.length q.length
 ·exact cf_range e
 ·rw [cf_out (by simp; omega),hf i (by omega) (by omega)]
theorem merge_lst (f : Nat -> Rat) (p q : List Rat) : Lst (mergeP f p q):=clip_lst _
def addP (p q : List Rat) : List Rat:=mergeP (fun j => cf p j + cf q j) p q
theorem cf_addP (p q : List Rat) (i : Nat) : cf (addP p q) i = cf p i + cf q i:=cf_merge (fun j h1 h2 => by rw [cf_out h1,cf_out h2,Rat.add_zero]) i
end Ab
end
section
open Go Go.Proofs
namespace Ab
set_option maxRecDepth 100000
set_option maxHeartbeats 1000000
theorem bd_cast {N : Nat} {r : Rat} (h : Bd 1 N r) : ∃ c : Int,r = (c : Rat)∧c.natAbs <= N:=by
 obtain ⟨_,n,h1,h2⟩:=h
 exact ⟨n,by rw [<- h1]; exact (Rat.mul_one r).symm,h2⟩
section
variable {p q : List Rat} {d m : Nat} {c : Int} (hp : BdL 1 50 p) (hq : BdL 1 50 q) (hc : cf q d = (c : Rat)) (c0 : c ≠ 0) (c50 : c.natAbs <= 50)
include hp hq hc c0 c50
theorem divF_bd : ∀ t j,Bd (c.natAbs ^ t) (50 * 100 ^ t) (divF p q d m t j)
 | 0,j => hp j
 | t + 1,j => by
  have ih:=divF_bd t
  unfold divF
  have w:=(ih j).wide c.natAbs (by omega)
  have w2 : Bd (c.natAbs ^ t * c.natAbs) (50 * 100 ^ t * 50) (divF p q d m t j):=w.mono (Nat.mul_le_mul_left _ c50)
  have e2 : 50 * 100 ^ (t + 1) = 50 * 100 ^ t * 50 + 50 * 100 ^ t * 50:=by rw [Nat.pow_succ]; omega
  split
  ·have x:=(((ih (m - 1 - t + d)).div c0).mul (hq (j - (m - 1 - t))))
   rw [Nat.mul_one] at x
   rw [hc]
   have y:=w2.sub x
   rw [e2]
   exact y
  ·rw [e2]
   exact w2.mono (by omega)
theorem divC_bd (k : Nat) : Bd (c.natAbs ^ (m - 1 - k) * c.natAbs) (50 * 100 ^ (m - 1 - k)) (divC p q d m k):=by
 unfold divC
 rw [hc]
 exact (divF_bd hp hq hc c0 c50 _ _).div c0
end
theorem pow_le_100 {t : Nat} (h : t <= 65) : 50 * 100 ^ t <= 50 * 100 ^ 65:=Nat.mul_le_mul_left _ (Nat.pow_le_pow_right (by decide) h)
theorem pow_le_c {c t : Nat} (h0 : 0 < c) (h : c <= 50) (ht : t <= 66) : c ^ t <= 50 ^ 66:=Nat.le_trans (Nat.pow_le_pow_right h0 ht) (Nat.pow_le_pow_left h _)
theorem divOk_int {p q : List Rat} (hp : BdL 1 50 p) (hq : BdL 1 50 q) (hl : p.length <= 65) (h0 : 0 < q.length) (ht : Lst q) : DivOk p q:=by
 obtain ⟨c,hc,c50⟩:=bd_cast (hq (q.length - 1))
 have c0 : c ≠ 0:=by
  intro e
  rw [e] at hc
  exact lst_at ht (k:=q.length - 1) (by omega) hc
 have fb:=fun (m t j : Nat) => divF_bd (m:=m) hp hq hc c0 c50 t j
 have cb:=fun (m k : Nat) => divC_bd (m:=m) hp hq hc c0 c50 k
 have hcn : 0 < c.natAbs:=by omega
 constructor
 ·intro t h
  have a:=fb (p.length - (q.length - 1)) t (p.length - (q.length - 1) - 1 - t + (q.length - 1))
  refine bd_fd a (hq (q.length - 1)) (sz_mono (z:=50 * 100 ^ 65 + 50 ^ 66) (w:=51) (by decide +kernel) (Nat.add_le_add (pow_le_100 (by omega)) (pow_le_c hcn c50 (by omega))) (Nat.le_refl _)) ?_
  exact lst_at ht (by omega)
 ·intro t h i hi
  have a:=cb (p.length - (q.length - 1)) (p.length - (q.length - 1) - 1 - t)
  rw [<- Nat.pow_succ] at a
  refine bd_fm a (hq i) (sz_mono (z:=50 * 100 ^ 65 + 50 ^ 66) (w:=51) (by decide +kernel) (Nat.add_le_add (pow_le_100 (by omega)) (pow_le_c hcn c50 (by omega))) (Nat.le_refl _))
 ·intro t h i hi
  have a:=cb (p.length - (q.length - 1)) (p.length - (q.length - 1) - 1 - t)
  rw [<- Nat.pow_succ] at a
  have b:=fb (p.length - (q.length - 1)) t (p.length - (q.length - 1) - 1 - t + i)
  refine bd_fs b (a.mul (hq i)) (sz_mono (z:=50 * 100 ^ 65 + 50 ^ 66) (w:=50 * 100 ^ 65 * 50 + 50 ^ 66) (by decide +kernel) (Nat.add_le_add (pow_le_100 (by omega)) (pow_le_c hcn c50 (by omega))) (Nat.add_le_add (Nat.mul_le_mul_right _ (pow_le_100 (by omega))) ?_))
  rw [Nat.mul_one]
  exact pow_le_c hcn c50 (by omega)
 ·intro r hr
  unfold divR0 at hr
  obtain ⟨j,hj,rfl⟩:=List.mem_map.1 hr
  have b:=fb (p.length - (q.length - 1)) (p.length - (q.length - 1)) j
  exact b.rf (Nat.le_trans (Nat.add_le_add (pow_le_100 (by omega)) (pow_le_c hcn c50 (by omega))) (by decide +kernel))
end Ab
end
section
open Go Go.Proofs
namespace Ab
set_option maxRecDepth 100000
set_option maxHeartbeats 1000000
theorem mul_zero (gl : List (Nat × AV)) {p q : List Rat} (h : p.length = 0 ∨ q.length = 0) : Spec Tryz.prog gl 52 [polyV p,polyV q] (polyV (mulP p q)):=by
 have lp:=poly_len p
 have lq:=poly_len q
 unfold mulP
 rw [if_pos h]
 refine spec_fn T_ok mixed_ok 0 Tryz.func52 fn_ok52 (by kernel_rfl) ?_
 refine grE (fun _ => ?_) (fun g => ?_)
 ·repeat (first | refine gT ?_ | refine gF ?_ | refine brT ?_ | refine brF ?_)
  exact And.intro (Or.inr rfl) rfl
 ·repeat (first | refine gT ?_ | refine gF ?_ | refine brT ?_ | refine brF ?_)
  refine brE (fun _ => ?_) (fun g2 => ?_)
  ·repeat (first | refine gT ?_ | refine gF ?_ | refine brT ?_ | refine brF ?_)
   exact And.intro (Or.inr rfl) rfl
  ·exact absurd h (fun h => h.elim (fun h => g (show ((p.map rv).length : Int) = 0 by omega)) (fun h => g2 (show ((q.map rv).length : Int) = 0 by omega)))
theorem mul_any (gl : List (Nat × AV)) {d N e M : Nat} {p q : List Rat} (hp : BdL d N p) (hq : BdL e M q) (hl : p.length + q.length <= 66) (h1 : (N + d) * (M + e) <= SZ) (h2 : (66 * (N * M) + d * e) * (N * M + d * e) <= SZ) : Spec Tryz.prog gl 52 [polyV p,polyV q] (polyV (mulP p q)):=by
 by_cases h : p.length = 0 ∨ q.length = 0
 ·exact mul_zero gl h
 ·exact mul_spec gl (by omega) (by omega) hl (mulOk_bd hp hq hl h1 h2)
theorem Mul_any (gl : List (Nat × AV)) {d N e M : Nat} {p q : List Rat} (hp : BdL d N p) (hq : BdL e M q) (tp : Lst p) (tq : Lst q) (lp : p.length <= 65) (lq : q.length <= 65) (hl : p.length + q.length <= 66) (h1 : (N + d) * (M + e) <= SZ) (h2 : (66 * (N * M) + d * e) * (N * M + d * e) <= SZ) : Spec Tryz.prog gl 16 [polyV p,polyV q] (.tup [polyV (mulP p q),.int .i64 0]):=by
 obtain ⟨s1,s2,_⟩:=sz_all h1 (hp 0).1 (hq 0).1
 have w:=want2 gl (poly_of hp s1 lp tp) (poly_of hq s2 lq tq)
 have m:=mul_any gl hp hq hl h1 h2
 refine spec_fn T_ok mixed_ok 0 Tryz.func16 fn_ok16 (by kernel_rfl) ?_
 refine And.intro (Nat.le_refl 2) ?_
 first | refine Exists.intro _ (And.intro (w) ?_) | refine Hn_by (Exists.intro _ (And.intro (w) ?_))
 first | refine Exists.intro _ (And.intro (m) ?_) | refine Hn_by (Exists.intro _ (And.intro (m) ?_))
 repeat (first | refine gT ?_ | refine gF ?_ | refine brT ?_ | refine brF ?_)
 exact And.intro (Or.inr rfl) rfl
end Ab
end
section
open Go Go.Proofs
namespace Ab
set_option maxRecDepth 100000
set_option maxHeartbeats 1000000
structure PB (d N n : Nat) (p : List Rat) : Prop where
 b : BdL d N p
 t : Lst p
 l : p.length <= n
theorem PB.more {d N n m : Nat} {p : List Rat} (h : PB d N n p) (hm : n <= m) : PB d N m p:=⟨h.b,h.t,Nat.le_trans h.l hm⟩
theorem PB.poly {d N n : Nat} {p : List Rat} (h : PB d N n p) (hs : N + d <= SZ) (hn : n <= 65) : Poly p:=poly_of h.b hs (Nat.le_trans h.l hn) h.t
theorem pb_nil {d N n : Nat} (h : 0 < d) : PB d N n []:=⟨bdl_nil h,fun h => absurd rfl h,Nat.zero_le _⟩
theorem Mul_pb (gl : List (Nat × AV)) {d N n e M m : Nat} {p q : List Rat} (hp : PB d N n p) (hq : PB e M m q) (hn : n <= 65) (hm : m <= 65) (h : n + m <= 66) (h1 : (N + d) * (M + e) <= SZ) (h2 : (66 * (N * M) + d * e) * (N * M + d * e) <= SZ) : Spec Tryz.prog gl 16 [polyV p,polyV q] (.tup [polyV (mulP p q),.int .i64 0]) :=
 Mul_any gl hp.b hq.b hp.t hq.t (Nat.le_trans hp.l hn) (Nat.le_trans hq.l hm) (by have:=hp.l; have:=hq.l; omega) h1 h2
theorem Same_pb (gl : List (Nat × AV)) {d N n m : Nat} {p q : List Rat} (hp : PB d N n p) (hq : q.length <= m) (hs : N + d <= SZ) (hn : n <= 1000000) (hm : m <= 1000000) : Spec Tryz.prog gl 20 [polyV p,polyV q] (.bool (decide (p = q))) :=
 sameL_spec gl (hp.b.rf hs) (Nat.le_trans hp.l hn) (Nat.le_trans hq hm)
theorem Same_eq (gl : List (Nat × AV)) {d N n : Nat} {p q : List Rat} (hp : PB d N n p) (hs : N + d <= SZ) (hn : n <= 1000000) (h : p = q) : Spec Tryz.prog gl 20 [polyV p,polyV q] (.bool true):=by
 have s:=Same_pb gl hp (q:=q) (m:=n) (h ▸ hp.l) hs hn hn
 rw [decide_eq_true h] at s
 exact s
end Ab
end
