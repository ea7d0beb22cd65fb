import Derived.Test.YtpjjbhhoagocjaaGreatDoorXPanU
import Derived.Test.YtpjjbhhoagocjaaGreatDoorXGud
import Derived.Test.YtpjjbhhoagocjaaGreatDoorXGuc
import Derived.Test.YtpjjbhhoagocjaaGreatDoorXDivP
open Go Go.Proofs
namespace Ab
set_option maxRecDepth 100000
set_option maxHeartbeats 1000000
def onesP (k : Nat) : List Rat:=List.replicate k 1
def pwr (n : Nat) : List Rat:=(List.range (n + 1)).map fun j => if j = n then 1 else 0
theorem ones_succ (k : Nat) : onesP (k + 1) = onesP k ++ [1]:=List.replicate_succ'
theorem ones_spec (gl : List (Nat × AV)) {n : Nat} (hn : n <= 1000) : Spec Tryz.prog gl 35 [.int .i64 (n : Int)] (polyV (onesP n)):=by
 have n1 : Spec Tryz.prog gl 19 [.int .i64 1] (rV 1):=number_spec gl (n:=1) (by omega) (by omega)
 unfold rV rv at n1
 refine spec_fn T_ok mixed_ok 0 Tryz.func35 fn_ok35 (by kernel_rfl) ?_
 refine aw_loopN 0 (fun h : List Rat => stOf [(0,.int .i64 (n : Int)),(3,hV h),(4,.int .i64 (h.length : Int))] (hH h) 1)
  (fun h => h.length <= n∧h = onesP h.length) (fun h => n - h.length) [] ⟨Nat.zero_le _,rfl⟩
  (.inl (le_by ⟨rfl,rfl,rfl,trivial⟩ trivial (show 0 <= 1 by decide))) (by kernel_rfl) ?_
 rintro h ⟨hk,hh⟩ P hP
 refine br (fun g => ?_) (fun g => ?_)
 ·have g : h.length < n:=Int.ofNat_lt.1 g
  have ds:=ones_succ h.length
  rw [<- hh] at ds
  have hw : w64 ((h.length : Int) + 1) = ((h.length + 1 : Nat) : Int):=w64_nat (by omega) (by omega)
  cases h with
  | nil =>
   first | refine Exists.intro _ (And.intro (n1) ?_) | refine Hn_by (Exists.intro _ (And.intro (n1) ?_))
   refine And.intro (by decide) (And.intro (by decide) (And.intro (show 1 <= maxLen by simp [maxLen]) (And.intro (Nat.le_refl 1) ?_)))
   refine hP [1] _ ?_ ⟨by simp; omega,rfl⟩ (by simp; omega)
   exact leR_by [(0,2)] [] rfl rfl (by decide) ⟨rfl,⟨by decide,rfl⟩,int_eq hw,trivial⟩ ⟨⟨rfl,trivial,rfl⟩,trivial⟩
  | cons r h =>
   have hm : (r :: h).length = ((r :: h).map rv).length:=(List.length_map _).symm
   first | refine Exists.intro _ (And.intro (n1) ?_) | refine Hn_by (Exists.intro _ (And.intro (n1) ?_))
   refine And.intro hm (And.intro (Nat.le_refl 1) (And.intro (show ((r :: h).length + 1) * 64 <= 140737488355328 by omega) (And.intro (show (r :: h).length + 1 <= maxLen by simp only [maxLen]; omega) ?_)))
   have hrow : (r :: h).map rv ++ [rv 1] = ((r :: h) ++ [(1 : Rat)]).map rv:=by rw [List.map_append]; rfl
   have hms : AV.ms 2 0 ((r :: h).length + 1) = AV.ms 2 0 ((r :: h) ++ [(1 : Rat)]).length:=by rw [List.length_append]; rfl
   have hl2 : ((r :: h) ++ [(1 : Rat)]).length = (r :: h).length + 1:=by rw [List.length_append,List.length_singleton]
   have hw2 : w64 (((r :: h).length : Int) + 1) = ((((r :: h) ++ [(1 : Rat)]).length : Nat) : Int):=by rw [hl2]; exact hw
   refine hP ((r :: h) ++ [(1 : Rat)]) _ ?_ ⟨by omega,by rw [hl2]; exact ds.symm⟩ (by omega)
   exact leR_by [(0,2)] [] rfl rfl (by decide) ⟨rfl,⟨by decide,hms⟩,int_eq hw2,trivial⟩ ⟨⟨rfl,trivial,(show some (Blk.arr (34,4) ((r :: h).map rv ++ [rv 1]) true) = some (Blk.arr (34,4) (((r :: h) ++ [(1 : Rat)]).map rv) true) by rw [hrow])⟩,trivial⟩
 ·have g : ¬ h.length < n:=fun e => g (Int.ofNat_lt.2 e)
  have e2 : h.length = n:=by omega
  rw [e2] at hh
  rw [<- hh]
  clear hP
  cases h with
  | nil => exact And.intro (Or.inr rfl) rfl
  | cons r h =>
   refine And.intro (Or.inr rfl) (And.intro (show 0 + (r :: h).length <= ((r :: h).map rv).length by rw [List.length_map]; omega) ?_)
   show AV.sl ((((r :: h).map rv).drop 0).take (r :: h).length) = _
   rw [List.drop_zero,List.take_of_length_le (by rw [List.length_map]; exact Nat.le_refl _)]
theorem power_spec03 (gl : List (Nat × AV)) {n : Nat} (hn : n <= 1000) : Spec Tryz.prog gl 36 [.int .i64 (n : Int)] (polyV (pwr n)):=by
 have n1 : Spec Tryz.prog gl 19 [.int .i64 1] (rV 1):=number_spec gl (n:=1) (by omega) (by omega)
 have n0 : Spec Tryz.prog gl 19 [.int .i64 0] (rV 0):=number_spec gl (n:=0) (by omega) (by omega)
 unfold rV rv at n0 n1
 have w1 : w64 ((n : Int) + 1) = ((n + 1 : Nat) : Int):=w64_nat (by omega) (by omega)
 obtain ⟨f,hf⟩ : ∃ f : Nat -> Rat,f = fun j => if j = n then 1 else 0:=⟨_,rfl⟩
 unfold pwr
 rw [<- hf]
 refine spec_fn T_ok mixed_ok 0 Tryz.func36 fn_ok36 (by kernel_rfl) ?_
 refine And.intro (show (0 : Int) <= w64 ((n : Int) + 1) by omega) (And.intro (Int.le_refl _) (And.intro (show w64 ((n : Int) + 1) * 64 <= 140737488355328 by omega) (And.intro (show w64 ((n : Int) + 1) <= ((maxLen : Nat) : Int) by simp only [maxLen]; omega) ?_)))
 refine aw_loopN 1 (fun k : Nat => stOf [(0,.int .i64 (n : Int)),(3,.ms 0 0 (n + 1)),(4,.int .i64 (k : Int))] [(0,.arr (34,4) (fillQ f (n + 1) k) true)] 1) (fun k => k <= n) (fun k => n - k) 0 (Nat.zero_le _)
  (.inl (le_by ⟨rfl,(show AV.ms 0 0 (w64 ((n : Int) + 1)).toNat = _ by rw [w1]; rfl),rfl,trivial⟩ ⟨(show some (Blk.arr (34,4) (List.replicate (w64 ((n : Int) + 1)).toNat z4) true) = _ by rw [w1,fill_zero]; rfl),trivial⟩ (Nat.le_refl _))) (by kernel_rfl) ?_
 intro k hk P hP
 refine br (fun g => ?_) (fun g => ?_)
 ·have g : k < n:=Int.ofNat_lt.1 g
  have fk : f k = 0:=by rw [hf]; exact if_neg (by omega)
  obtain ⟨a,b,c,d,hr⟩:=fill_at f (n + 1) k (i:=k) (by omega)
  first | refine Exists.intro _ (And.intro (n0) ?_) | refine Hn_by (Exists.intro _ (And.intro (n0) ?_))
  refine And.intro (Int.natCast_nonneg k) (And.intro (show (k : Int) < ((n + 1 : Nat) : Int) by omega) ?_)
  refine Exists.intro _ (And.intro (show (fillQ f (n + 1) k)[0 + (k : Int).toNat]? = some [a,b,c,d] by rw [Nat.zero_add,Int.toNat_natCast]; exact hr) ?_)
  refine hP (k + 1) _ (.inl (le_by ⟨rfl,rfl,int_eq ?_,trivial⟩ ⟨?_,trivial⟩ (Nat.le_refl _))) g (by omega)
  ·show w64 ((k : Int) + 1) = _
   exact w64_nat (by omega) (by omega)
  ·show some (Blk.arr (34,4) ((fillQ f (n + 1) k).set (0 + (k : Int).toNat) (rv 0)) true) = _
   rw [Nat.zero_add,Int.toNat_natCast,<- fk,fill_set (show k < n + 1 by omega)]
 ·have g : ¬ k < n:=fun h => g (Int.ofNat_lt.2 h)
  have ek : n = k:=by omega
  subst ek
  clear hP
  have fk : f n = 1:=by rw [hf]; exact if_pos rfl
  obtain ⟨a,b,c,d,hr⟩:=fill_at f (n + 1) n (i:=n) (by omega)
  first | refine Exists.intro _ (And.intro (n1) ?_) | refine Hn_by (Exists.intro _ (And.intro (n1) ?_))
  refine And.intro (Int.natCast_nonneg n) (And.intro (show (n : Int) < ((n + 1 : Nat) : Int) by omega) ?_)
  refine Exists.intro _ (And.intro (show (fillQ f (n + 1) n)[0 + (n : Int).toNat]? = some [a,b,c,d] by rw [Nat.zero_add,Int.toNat_natCast]; exact hr) ?_)
  have e : (fillQ f (n + 1) n).set (0 + (n : Int).toNat) (rv 1) = ((List.range (n + 1)).map f).map rv:=by
   rw [Nat.zero_add,Int.toNat_natCast,<- fk,fill_set (show n < n + 1 by omega),fill_full]
  have hml : (((List.range (n + 1)).map f).map rv).length = n + 1:=by simp
  refine And.intro (Or.inr rfl) (And.intro (show 0 + (n + 1) <= ((fillQ f (n + 1) n).set (0 + (n : Int).toNat) (rv 1)).length by rw [e]; omega) ?_)
  show AV.sl ((((fillQ f (n + 1) n).set (0 + (n : Int).toNat) (rv 1)).drop 0).take (n + 1)) = _
  rw [e,List.drop_zero,List.take_of_length_le (by omega)]
theorem check_big (gl : List (Nat × AV)) {p : List Rat} (hp : AllRF p) (hl : 65 < p.length) (hl2 : p.length <= 1000) (hc : p.getD (p.length - 1) 0 ≠ 0) : Spec Tryz.prog gl 34 [polyV p] (.int .i64 2):=by
 have hlen:=poly_len p
 refine spec_fn T_ok mixed_ok 3 Tryz.func34 fn_ok34 (by kernel_rfl) ?_
 refine Hn_in Tryz.f77 Tryz.func77 fn_ok77 (by kernel_rfl) ?_
 refine Hn_in Tryz.f124 Tryz.func124 fn_ok124 (by kernel_rfl) ?_
 refine aw_loop (fun i : Nat => stOf [(0,polyV p),(1,.fn 78 []),(7,.int .i64 (p.length : Int)),(8,.int .i64 (i : Int))] [] 0) (fun i => i <= p.length) (fun i => p.length - i) 0 (Nat.zero_le _)
  (le_by ⟨rfl,rfl,int_eq hlen,rfl,trivial⟩ trivial (Nat.le_refl _)) ?_
 intro i hi P hP
 refine br (fun g => ?_) (fun g => ?_)
 ·have g : i < p.length:=Int.ofNat_lt.1 g
  have s:=valid_rat gl (hp.at g)
  refine And.intro (Int.natCast_nonneg i) (Exists.intro _ (And.intro (by rw [Int.toNat_natCast]; exact poly_at g) ?_))
  repeat (first | refine gT ?_ | refine gF ?_ | refine brT ?_ | refine brF ?_)
  refine Hn_cut Tryz.f78 Tryz.func78 fn_ok78 (by kernel_rfl) ?_
  first | refine Exists.intro _ (And.intro (s) ?_) | refine Hn_by (Exists.intro _ (And.intro (s) ?_))
  refine And.intro (Or.inr rfl) (And.intro rfl (And.intro trivial ?_))
  repeat (first | refine gT ?_ | refine gF ?_ | refine brT ?_ | refine brF ?_)
  refine hP (i + 1) _ (le_by ⟨rfl,rfl,rfl,int_eq ?_,trivial⟩ trivial (Nat.le_refl _)) g (by omega)
  have : w64 ((i : Int) + 1) = ((i + 1 : Nat) : Int):=by rw [w64_eq (by omega)]; omega
  exact this
 ·clear hP
  refine And.intro (Or.inr rfl) ?_
  refine And.intro (Or.inr rfl) ?_
  repeat (first | refine gT ?_ | refine gF ?_ | refine brT ?_ | refine brF ?_)
  refine br (fun _ => ?_) (fun g => absurd (show (((p.map rv).length : Nat) : Int) > 0 by omega) g)
  have hw : w64 (((p.map rv).length : Int) - 1) = ((p.length - 1 : Nat) : Int):=by rw [w64_eq (by omega)]; omega
  have s:=sign_rat gl (hp.at (k:=p.length - 1) (by omega))
  repeat (first | refine gT ?_ | refine gF ?_ | refine brT ?_ | refine brF ?_)
  refine And.intro (show (0 : Int) <= w64 (((p.map rv).length : Int) - 1) by omega) (Exists.intro _ (And.intro (show (p.map rv)[(w64 (((p.map rv).length : Int) - 1)).toNat]? = some (rv (p.getD (p.length - 1) 0)) by rw [hw,Int.toNat_natCast]; exact poly_at (by omega)) ?_))
  repeat (first | refine gT ?_ | refine gF ?_ | refine brT ?_ | refine brF ?_)
  first | refine Exists.intro _ (And.intro (s) ?_) | refine Hn_by (Exists.intro _ (And.intro (s) ?_))
  repeat (first | refine gT ?_ | refine gF ?_ | refine brT ?_ | refine brF ?_)
  refine brE (fun e => absurd (sgR_zero.1 e) hc) (fun _ => ?_)
  repeat (first | refine gT ?_ | refine gF ?_ | refine brT ?_ | refine brF ?_)
  refine br (fun _ => ?_) (fun g => absurd (show (((p.map rv).length : Nat) : Int) > 65 by omega) g)
  exact And.intro (Or.inr rfl) rfl
theorem Compose_big (gl : List (Nat × AV)) {p q : List Rat} (hp : Poly p) (hq : Poly q) (hd : 64 < (p.length - 1) * (q.length - 1)) : Spec Tryz.prog gl 37 [polyV p,polyV q] (.tup [polyV [],.int .i64 2]):=by
 have w:=want2 gl hp hq
 have lp:=poly_len p
 have lq:=poly_len q
 have p1:=hp.2.1
 have q1:=hq.2.1
 have p0 : 1 < p.length:=by
  apply Decidable.byContradiction; intro h
  rw [show p.length - 1 = 0 by omega,Nat.zero_mul] at hd; omega
 have q0 : 1 < q.length:=by
  apply Decidable.byContradiction; intro h
  rw [show q.length - 1 = 0 by omega,Nat.mul_zero] at hd; omega
 have bd : (p.length - 1) * (q.length - 1) <= 64 * 64:=Nat.mul_le_mul (by omega) (by omega)
 have e1 : ((p.map rv).length : Int) - 1 = ((p.length - 1 : Nat) : Int):=by omega
 have e2 : ((q.map rv).length : Int) - 1 = ((q.length - 1 : Nat) : Int):=by omega
 have w1 : w64 ((p.length - 1 : Nat) : Int) = ((p.length - 1 : Nat) : Int):=w64_eq (by omega)
 have w2 : w64 ((q.length - 1 : Nat) : Int) = ((q.length - 1 : Nat) : Int):=w64_eq (by omega)
 have big : w64 (w64 (((p.map rv).length : Int) - 1) * w64 (((q.map rv).length : Int) - 1)) > 64:=by
  rw [e1,e2,w1,w2,<- Int.natCast_mul,w64_eq (by omega)]
  omega
 refine spec_fn T_ok mixed_ok 3 Tryz.func37 fn_ok37 (by kernel_rfl) ?_
 refine Hn_by (And.intro (Nat.le_refl 2) ?_)
 first | refine Exists.intro _ (And.intro (w) ?_) | refine Hn_by (Exists.intro _ (And.intro (w) ?_))
 repeat (first | refine gT ?_ | refine gF ?_ | refine brT ?_ | refine brF ?_)
 refine br (fun _ => ?_) (fun g => absurd (show ((p.map rv).length : Int) > 0 by omega) g)
 repeat (first | refine gT ?_ | refine gF ?_ | refine brT ?_ | refine brF ?_)
 refine br (fun _ => ?_) (fun g => absurd (show ((q.map rv).length : Int) > 0 by omega) g)
 repeat (first | refine gT ?_ | refine gF ?_ | refine brT ?_ | refine brF ?_)
 refine br (fun _ => ?_) (fun g => absurd big g)
 repeat (first | refine gT ?_ | refine gF ?_ | refine brT ?_ | refine brF ?_)
 exact And.intro (Or.inr rfl) rfl
theorem pwr_len (n : Nat) : (pwr n).length = n + 1:=by simp [pwr]
theorem cf_pwr (n k : Nat) : cf (pwr n) k = if k = n then 1 else 0:=by
 unfold pwr
 rw [cf_rng]
 by_cases h : k < n + 1
 ·rw [if_pos h]
 ·rw [if_neg h,if_neg (by omega)]
theorem pwr_lst (n : Nat) : Lst (pwr n):=lst_of fun k hk => by
 rw [pwr_len] at hk
 rw [cf_pwr,if_pos (by omega)]
 decide
theorem pwr_bd (n : Nat) : BdL 1 1 (pwr n):=fun i => by
 rw [cf_pwr]
 split
 ·exact bd_int (n:=1) (by decide)
 ·exact bd_zero (by decide)
theorem pwr_pb (n : Nat) : PB 1 1 (n + 1) (pwr n):=⟨pwr_bd n,pwr_lst n,by rw [pwr_len]; exact Nat.le_refl _⟩
theorem pwr_cnv (a b k : Nat) : cnv (cf (pwr a)) (cf (pwr b)) k = if k = a + b then 1 else 0:=by
 by_cases h : a <= k
 ·unfold cnv
  rw [psum_one (m:=a) (by omega) fun i h1 h2 => by rw [cf_pwr,if_neg h2,Rat.zero_mul],cf_pwr,if_pos rfl,cf_pwr,Rat.one_mul]
  by_cases e : k = a + b
  ·rw [if_pos (by omega),if_pos e]
  ·rw [if_neg (by omega),if_neg e]
 ·rw [if_neg (by omega)]
  exact psum_zero fun i hi => by rw [cf_pwr,if_neg (by omega),Rat.zero_mul]
theorem pwr_mul (a b : Nat) : mulP (pwr a) (pwr b) = pwr (a + b) :=
 lst_ext (mulP_lst (pwr_lst a) (pwr_lst b)) (pwr_lst _) fun i => by rw [cf_mulP,pwr_cnv,cf_pwr]
theorem pwr_cmp (c d : Nat) : ∀ t,t <= c -> cmp (pwr c) (pwr d) (t + 1) = pwr (d * t)
 | 0,_ => by
  refine lst_ext (merge_lst _ _ _) (pwr_lst _) fun i => ?_
  show cf (addP (mulP [] (pwr d)) (clipP [cf (pwr c) ((pwr c).length - 1 - 0)])) i = _
  rw [cf_addP,cf_mulP,cf_clip,cf_pwr,pwr_len,if_pos (by omega),Nat.mul_zero,cf_pwr]
  rw [show cnv (cf []) (cf (pwr d)) i = 0 from psum_zero fun j _ => by rw [cf_out (p:=[]) (Nat.zero_le _),Rat.zero_mul],Rat.zero_add]
  cases i with
  | zero => rfl
  | succ i => rw [if_neg (by omega)]; rfl
 | t + 1,ht => by
  refine lst_ext (merge_lst _ _ _) (pwr_lst _) fun i => ?_
  show cf (addP (mulP (cmp (pwr c) (pwr d) (t + 1)) (pwr d)) (clipP [cf (pwr c) ((pwr c).length - 1 - (t + 1))])) i = _
  rw [cf_addP,cf_clip,pwr_cmp c d t (by omega),pwr_mul,cf_pwr c,pwr_len,if_neg (by omega),show d * t + d = d * (t + 1) from rfl]
  have : cf [(0 : Rat)] i = 0:=by
   cases i with
   | zero => rfl
   | succ i => rfl
  rw [this,Rat.add_zero]
theorem pwr_poly {n : Nat} (h : n <= 64) : Poly (pwr n):=(pwr_pb n).poly (by decide +kernel) (by omega)
theorem pwr_comp (gl : List (Nat × AV)) {c d : Nat} (hc : c <= 64) (hd : d <= 64) (h : c * d <= 64) : Spec Tryz.prog gl 37 [polyV (pwr c),polyV (pwr d)] (.tup [polyV (pwr (c * d)),.int .i64 0]):=by
 have hb : ∀ t,t < (pwr c).length -> PB 1 1 65 (cmp (pwr c) (pwr d) t)∧(cmp (pwr c) (pwr d) t).length + d <= 65:=fun t ht => by
  rw [pwr_len] at ht
  cases t with
  | zero => exact ⟨pb_nil (by decide),show 0 + d <= 65 by omega⟩
  | succ t =>
   rw [pwr_cmp c d t (by omega)]
   have : d * t + d <= d * c:=by rw [<- Nat.mul_succ]; exact Nat.mul_le_mul_left _ (by omega)
   rw [Nat.mul_comm] at h
   exact ⟨(pwr_pb _).more (by omega),by rw [pwr_len]; omega⟩
 have hm : ∀ t,t < (pwr c).length -> BdL 1 1 (mulP (cmp (pwr c) (pwr d) t) (pwr d)):=fun t ht => by
  rw [pwr_len] at ht
  cases t with
  | zero =>
   show BdL 1 1 (mulP [] (pwr d))
   unfold mulP
   rw [if_pos (.inl rfl)]
   exact bdl_nil (by decide)
  | succ t => rw [pwr_cmp c d t (by omega),pwr_mul]; exact pwr_bd _
 have e : cmp (pwr c) (pwr d) (pwr c).length = pwr (c * d):=by rw [pwr_len,pwr_cmp c d c (Nat.le_refl _),Nat.mul_comm]
 have s:=Compose_spec gl (pwr_poly hc) (pwr_poly hd) (by rw [pwr_len,pwr_len]; exact h) ⟨fun t ht => ?_,fun t ht => ?_,fun t ht j => ?_⟩
 ·rw [e] at s; exact s
 ·have:=(hb t ht).2
  have h2:=mulP_len (cmp (pwr c) (pwr d) t) (pwr d)
  rw [pwr_len] at h2
  omega
 ·exact mul_any gl (hb t ht).1.b (pwr_bd d) (by rw [pwr_len]; have:=(hb t ht).2; omega) (by decide +kernel) (by decide +kernel)
 ·exact bd_fa (hm t ht j) (bdl_clip (d:=1) (N:=1) (p:=[cf (pwr c) ((pwr c).length - 1 - t)]) (bdl_of (by decide) fun i hi => by
   have : i = 0:=by simpa using hi
   subst this
   exact pwr_bd c _) j) (by decide +kernel)
theorem onesP_at {k i : Nat} (h : i < k) : (onesP k).getD i 0 = 1:=by simp [onesP,List.getD,h]
theorem onesP_rf (k : Nat) : AllRF (onesP k):=fun r hr => by
 rw [List.eq_of_mem_replicate hr]
 exact (bd_int (n:=1) (N:=1) (by decide)).rf (by decide +kernel)
theorem onesP_len (k : Nat) : (onesP k).length = k:=List.length_replicate
theorem limits_walk {n a b p0 ce f g : Int} {A B : Nat} {P Q : List Rat} (hkce : ((ce == 0) != decide (w64 (63 + p0) <= 65)) = false) (hce : ce = 0 ∨ ce = 2)
  (pn : Spec Tryz.prog [] 23 [.int .i64 n,.int .i64 4] (.int .i64 p0))
  (pa : Spec Tryz.prog [] 23 [.int .i64 a,.int .i64 65] (.int .i64 (A : Int)))
  (pb : Spec Tryz.prog [] 23 [.int .i64 b,.int .i64 65] (.int .i64 (B : Int)))
  {O : List Rat} (on : Spec Tryz.prog [] 35 [.int .i64 (w64 (63 + p0))] (polyV O)) (ck : Spec Tryz.prog [] 34 [polyV O] (.int .i64 ce))
  (ea : Spec Tryz.prog [] 36 [.int .i64 (A : Int)] (polyV (pwr A))) (eb : Spec Tryz.prog [] 36 [.int .i64 (B : Int)] (polyV (pwr B)))
  (mu : Spec Tryz.prog [] 16 [polyV (pwr A),polyV (pwr B)] (.tup [polyV P,.int .i64 f]))
  {C D : List Rat} (ec : Spec Tryz.prog [] 36 [.int .i64 ((A : Int).tmod 10)] (polyV C)) (ed : Spec Tryz.prog [] 36 [.int .i64 ((B : Int).tmod 10)] (polyV D))
  (co : Spec Tryz.prog [] 37 [polyV C,polyV D] (.tup [polyV Q,.int .i64 g]))
  {S S2 : List Rat} (pab : w64 ((A : Int) + (B : Int)) <= 64 -> Spec Tryz.prog [] 36 [.int .i64 (w64 ((A : Int) + (B : Int)))] (polyV S))
  (pcd : w64 ((A : Int).tmod 10 * (B : Int).tmod 10) <= 64 -> Spec Tryz.prog [] 36 [.int .i64 (w64 ((A : Int).tmod 10 * (B : Int).tmod 10))] (polyV S2))
  (hm : (w64 ((A : Int) + (B : Int)) <= 64∧Spec Tryz.prog [] 20 [polyV P,polyV S] (.bool true)∧f = 0) ∨ (¬ w64 ((A : Int) + (B : Int)) <= 64∧f = 2))
  (hc : (w64 ((A : Int).tmod 10 * (B : Int).tmod 10) <= 64∧Spec Tryz.prog [] 20 [polyV Q,polyV S2] (.bool true)∧g = 0) ∨ (¬ w64 ((A : Int).tmod 10 * (B : Int).tmod 10) <= 64∧Q = []∧g = 2)) :
  Spec Tryz.prog [] 7 [.int .i64 n,.int .i64 a,.int .i64 b] (.bool true):=by
 refine spec_fn T_ok mixed_ok 0 Tryz.func7 fn_ok7 (by kernel_rfl) ?_
 first | refine Exists.intro _ (And.intro (sane_spec) ?_) | refine Hn_by (Exists.intro _ (And.intro (sane_spec) ?_))
 repeat (first | refine gT ?_ | refine gF ?_ | refine brT ?_ | refine brF ?_)
 first | refine Exists.intro _ (And.intro (pn) ?_) | refine Hn_by (Exists.intro _ (And.intro (pn) ?_))
 first | refine Exists.intro _ (And.intro (on) ?_) | refine Hn_by (Exists.intro _ (And.intro (on) ?_))
 first | refine Exists.intro _ (And.intro (ck) ?_) | refine Hn_by (Exists.intro _ (And.intro (ck) ?_))
 first | refine Exists.intro _ (And.intro (pa) ?_) | refine Hn_by (Exists.intro _ (And.intro (pa) ?_))
 first | refine Exists.intro _ (And.intro (pb) ?_) | refine Hn_by (Exists.intro _ (And.intro (pb) ?_))
 first | refine Exists.intro _ (And.intro (ea) ?_) | refine Hn_by (Exists.intro _ (And.intro (ea) ?_))
 first | refine Exists.intro _ (And.intro (eb) ?_) | refine Hn_by (Exists.intro _ (And.intro (eb) ?_))
 first | refine Exists.intro _ (And.intro (mu) ?_) | refine Hn_by (Exists.intro _ (And.intro (mu) ?_))
 refine And.intro (by decide) ?_
 refine And.intro (by decide) ?_
 first | refine Exists.intro _ (And.intro (ec) ?_) | refine Hn_by (Exists.intro _ (And.intro (ec) ?_))
 first | refine Exists.intro _ (And.intro (ed) ?_) | refine Hn_by (Exists.intro _ (And.intro (ed) ?_))
 first | refine Exists.intro _ (And.intro (co) ?_) | refine Hn_by (Exists.intro _ (And.intro (co) ?_))
 rcases hce with rfl | rfl
 ·refine And.intro (fun _ => ?_) (fun h => absurd (hkce.symm.trans h) (by decide))
  repeat (first | refine gT ?_ | refine gF ?_ | refine brT ?_ | refine brF ?_)
  rcases hm with ⟨g4,sm2,rfl,rfl⟩ | ⟨g4,rfl,rfl⟩
  ·refine br (fun _ => ?_) (fun g => absurd g4 g)
   repeat (first | refine gT ?_ | refine gF ?_ | refine brT ?_ | refine brF ?_)
   first | refine Exists.intro _ (And.intro ((pab g4)) ?_) | refine Hn_by (Exists.intro _ (And.intro ((pab g4)) ?_))
   repeat (first | refine gT ?_ | refine gF ?_ | refine brT ?_ | refine brF ?_)
   first | refine Exists.intro _ (And.intro (sm2) ?_) | refine Hn_by (Exists.intro _ (And.intro (sm2) ?_))
   repeat (first | refine gT ?_ | refine gF ?_ | refine brT ?_ | refine brF ?_)
   refine br (fun g => absurd g4 (by have g : w64 ((A : Int) + (B : Int)) > 64:=g; omega)) (fun _ => ?_)
   repeat (first | refine gT ?_ | refine gF ?_ | refine brT ?_ | refine brF ?_)
   refine br (fun g5 => ?_) (fun g5 => ?_)
   ·rcases hc with ⟨g6,sm,rfl,rfl⟩ | ⟨g6,rfl,rfl⟩
    ·repeat (first | refine gT ?_ | refine gF ?_ | refine brT ?_ | refine brF ?_)
     first | refine Exists.intro _ (And.intro ((pcd g6)) ?_) | refine Hn_by (Exists.intro _ (And.intro ((pcd g6)) ?_))
     repeat (first | refine gT ?_ | refine gF ?_ | refine brT ?_ | refine brF ?_)
     first | refine Exists.intro _ (And.intro (sm) ?_) | refine Hn_by (Exists.intro _ (And.intro (sm) ?_))
     repeat (first | refine gT ?_ | refine gF ?_ | refine brT ?_ | refine brF ?_)
     exact And.intro (Or.inr rfl) rfl
    ·exact absurd g5 g6
   ·rcases hc with ⟨g6,sm,rfl,rfl⟩ | ⟨g6,rfl,rfl⟩
    ·exact absurd g6 g5
    ·
     repeat (first | refine gT ?_ | refine gF ?_ | refine brT ?_ | refine brF ?_)
     exact And.intro (Or.inr rfl) rfl
  ·refine br (fun g => absurd g g4) (fun _ => ?_)
   repeat (first | refine gT ?_ | refine gF ?_ | refine brT ?_ | refine brF ?_)
   refine br (fun _ => ?_) (fun g => absurd (show w64 ((A : Int) + (B : Int)) > 64 by omega) g)
   repeat (first | refine gT ?_ | refine gF ?_ | refine brT ?_ | refine brF ?_)
   refine br (fun g5 => ?_) (fun g5 => ?_)
   ·rcases hc with ⟨g6,sm,rfl,rfl⟩ | ⟨g6,rfl,rfl⟩
    ·repeat (first | refine gT ?_ | refine gF ?_ | refine brT ?_ | refine brF ?_)
     first | refine Exists.intro _ (And.intro ((pcd g6)) ?_) | refine Hn_by (Exists.intro _ (And.intro ((pcd g6)) ?_))
     repeat (first | refine gT ?_ | refine gF ?_ | refine brT ?_ | refine brF ?_)
     first | refine Exists.intro _ (And.intro (sm) ?_) | refine Hn_by (Exists.intro _ (And.intro (sm) ?_))
     repeat (first | refine gT ?_ | refine gF ?_ | refine brT ?_ | refine brF ?_)
     exact And.intro (Or.inr rfl) rfl
    ·exact absurd g5 g6
   ·rcases hc with ⟨g6,sm,rfl,rfl⟩ | ⟨g6,rfl,rfl⟩
    ·exact absurd g6 g5
    ·
     repeat (first | refine gT ?_ | refine gF ?_ | refine brT ?_ | refine brF ?_)
     exact And.intro (Or.inr rfl) rfl
 ·refine And.intro (fun _ => ?_) (fun h => absurd (hkce.symm.trans h) (by decide))
  repeat (first | refine gT ?_ | refine gF ?_ | refine brT ?_ | refine brF ?_)
  rcases hm with ⟨g4,sm2,rfl,rfl⟩ | ⟨g4,rfl,rfl⟩
  ·refine br (fun _ => ?_) (fun g => absurd g4 g)
   repeat (first | refine gT ?_ | refine gF ?_ | refine brT ?_ | refine brF ?_)
   first | refine Exists.intro _ (And.intro ((pab g4)) ?_) | refine Hn_by (Exists.intro _ (And.intro ((pab g4)) ?_))
   repeat (first | refine gT ?_ | refine gF ?_ | refine brT ?_ | refine brF ?_)
   first | refine Exists.intro _ (And.intro (sm2) ?_) | refine Hn_by (Exists.intro _ (And.intro (sm2) ?_))
   repeat (first | refine gT ?_ | refine gF ?_ | refine brT ?_ | refine brF ?_)
   refine br (fun g => absurd g4 (by have g : w64 ((A : Int) + (B : Int)) > 64:=g; omega)) (fun _ => ?_)
   repeat (first | refine gT ?_ | refine gF ?_ | refine brT ?_ | refine brF ?_)
   refine br (fun g5 => ?_) (fun g5 => ?_)
   ·rcases hc with ⟨g6,sm,rfl,rfl⟩ | ⟨g6,rfl,rfl⟩
    ·repeat (first | refine gT ?_ | refine gF ?_ | refine brT ?_ | refine brF ?_)
     first | refine Exists.intro _ (And.intro ((pcd g6)) ?_) | refine Hn_by (Exists.intro _ (And.intro ((pcd g6)) ?_))
     repeat (first | refine gT ?_ | refine gF ?_ | refine brT ?_ | refine brF ?_)
     first | refine Exists.intro _ (And.intro (sm) ?_) | refine Hn_by (Exists.intro _ (And.intro (sm) ?_))
     repeat (first | refine gT ?_ | refine gF ?_ | refine brT ?_ | refine brF ?_)
     exact And.intro (Or.inr rfl) rfl
    ·exact absurd g5 g6
   ·rcases hc with ⟨g6,sm,rfl,rfl⟩ | ⟨g6,rfl,rfl⟩
    ·exact absurd g6 g5
    ·
     repeat (first | refine gT ?_ | refine gF ?_ | refine brT ?_ | refine brF ?_)
     exact And.intro (Or.inr rfl) rfl
  ·refine br (fun g => absurd g g4) (fun _ => ?_)
   repeat (first | refine gT ?_ | refine gF ?_ | refine brT ?_ | refine brF ?_)
   refine br (fun _ => ?_) (fun g => absurd (show w64 ((A : Int) + (B : Int)) > 64 by omega) g)
   repeat (first | refine gT ?_ | refine gF ?_ | refine brT ?_ | refine brF ?_)
   refine br (fun g5 => ?_) (fun g5 => ?_)
   ·rcases hc with ⟨g6,sm,rfl,rfl⟩ | ⟨g6,rfl,rfl⟩
    ·repeat (first | refine gT ?_ | refine gF ?_ | refine brT ?_ | refine brF ?_)
     first | refine Exists.intro _ (And.intro ((pcd g6)) ?_) | refine Hn_by (Exists.intro _ (And.intro ((pcd g6)) ?_))
     repeat (first | refine gT ?_ | refine gF ?_ | refine brT ?_ | refine brF ?_)
     first | refine Exists.intro _ (And.intro (sm) ?_) | refine Hn_by (Exists.intro _ (And.intro (sm) ?_))
     repeat (first | refine gT ?_ | refine gF ?_ | refine brT ?_ | refine brF ?_)
     exact And.intro (Or.inr rfl) rfl
    ·exact absurd g5 g6
   ·rcases hc with ⟨g6,sm,rfl,rfl⟩ | ⟨g6,rfl,rfl⟩
    ·exact absurd g6 g5
    ·
     repeat (first | refine gT ?_ | refine gF ?_ | refine brT ?_ | refine brF ?_)
     exact And.intro (Or.inr rfl) rfl
theorem limits_law (n : Int) (wn : (Lit.int .i64 n).wf = true) (a : Int) (wa : (Lit.int .i64 a).wf = true) (b : Int) (wb : (Lit.int .i64 b).wf = true) :
  Spec Tryz.prog [] 7 [.int .i64 n,.int .i64 a,.int .i64 b] (.bool true):=by
 simp only [Lit.wf,Bool.and_eq_true,decide_eq_true_eq] at wn wa wb
 have pn:=pick_uni [] (x:=n) (n:=4) wn.1 wn.2 (by decide)
 have pa:=pick_uni [] (x:=a) (n:=65) wa.1 wa.2 (by decide)
 have pb:=pick_uni [] (x:=b) (n:=65) wb.1 wb.2 (by decide)
 have bn:=pickU_bd (x:=n) (n:=4) (by decide)
 have ba:=pickU_bd (x:=a) (n:=65) (by decide)
 have bb:=pickU_bd (x:=b) (n:=65) (by decide)
 obtain ⟨A,hA⟩ : ∃ A : Nat,(A : Int) = pickU a 65:=⟨(pickU a 65).toNat,by omega⟩
 obtain ⟨B,hB⟩ : ∃ B : Nat,(B : Int) = pickU b 65:=⟨(pickU b 65).toNat,by omega⟩
 rw [<- hA] at pa
 rw [<- hB] at pb
 have hw : w64 (63 + pickU n 4) = 63 + pickU n 4:=w64_eq (by omega)
 obtain ⟨k,hk⟩ : ∃ k : Nat,(k : Int) = w64 (63 + pickU n 4):=⟨(63 + pickU n 4).toNat,by omega⟩
 have on:=ones_spec [] (n:=k) (by omega)
 rw [hk] at on
 have hmA : (A : Int).tmod 10 = ((A % 10 : Nat) : Int):=by rw [Int.tmod_eq_emod_of_nonneg (Int.natCast_nonneg A)]; omega
 have hmB : (B : Int).tmod 10 = ((B % 10 : Nat) : Int):=by rw [Int.tmod_eq_emod_of_nonneg (Int.natCast_nonneg B)]; omega
 have hab : w64 ((A : Int) + (B : Int)) = ((A + B : Nat) : Int):=w64_nat (by omega) (by omega)
 have hcd' : (A % 10) * (B % 10) <= 9 * 9:=Nat.mul_le_mul (by omega) (by omega)
 have hcd : w64 ((A : Int).tmod 10 * (B : Int).tmod 10) = ((A % 10 * (B % 10) : Nat) : Int):=by rw [hmA,hmB,<- Int.natCast_mul]; exact w64_eq (by omega)
 have ec:=power_spec03 [] (n:=A % 10) (by omega)
 have ed:=power_spec03 [] (n:=B % 10) (by omega)
 have pab:=power_spec03 [] (n:=A + B) (by omega)
 have pcd:=power_spec03 [] (n:=A % 10 * (B % 10)) (by omega)
 rw [<- hmA] at ec
 rw [<- hmB] at ed
 rw [<- hab] at pab
 rw [<- hcd] at pcd
 have ck : ∃ ce,((ce == 0) != decide (w64 (63 + pickU n 4) <= 65)) = false∧(ce = 0 ∨ ce = 2)∧Spec Tryz.prog [] 34 [polyV (onesP k)] (.int .i64 ce):=by
  by_cases h : k <= 65
  ·refine ⟨0,by rw [decide_eq_true (by omega)]; rfl,.inl rfl,check_spec [] ⟨onesP_rf k,by rw [onesP_len]; exact h,fun hne => ?_⟩⟩
   have : (onesP k).getLast hne ∈ onesP k:=List.getLast_mem hne
   rw [List.eq_of_mem_replicate this]
   decide
  ·refine ⟨2,by rw [decide_eq_false (by omega)]; rfl,.inr rfl,check_big [] (onesP_rf k) (by rw [onesP_len]; omega) (by rw [onesP_len]; omega) ?_⟩
   rw [onesP_len,onesP_at (by omega)]
   decide
 obtain ⟨ce,c1,c2,ck⟩:=ck
 have same1:=fun (j : Nat) (hj : j <= 1000) => Same_eq [] (pwr_pb j) (by decide +kernel) (by omega) rfl
 have mu : ∃ P f,Spec Tryz.prog [] 16 [polyV (pwr A),polyV (pwr B)] (.tup [polyV P,.int .i64 f])∧((w64 ((A : Int) + (B : Int)) <= 64∧Spec Tryz.prog [] 20 [polyV P,polyV (pwr (A + B))] (.bool true)∧f = 0) ∨ (¬ w64 ((A : Int) + (B : Int)) <= 64∧f = 2)):=by
  by_cases h : A + B <= 64
  ·have m:=Mul_pb [] (pwr_pb A) (pwr_pb B) (by omega) (by omega) (by omega) (by decide +kernel) (by decide +kernel)
   rw [pwr_mul] at m
   exact ⟨_,_,m,.inl ⟨by omega,same1 _ (by omega),rfl⟩⟩
  ·exact ⟨_,_,Mul_big [] (pwr_poly (by omega)) (pwr_poly (by omega)) (by rw [pwr_len,pwr_len]; omega),.inr ⟨by omega,rfl⟩⟩
 obtain ⟨P,f,mu,hm⟩:=mu
 have co : ∃ Q g,Spec Tryz.prog [] 37 [polyV (pwr (A % 10)),polyV (pwr (B % 10))] (.tup [polyV Q,.int .i64 g])∧((w64 ((A : Int).tmod 10 * (B : Int).tmod 10) <= 64∧Spec Tryz.prog [] 20 [polyV Q,polyV (pwr (A % 10 * (B % 10)))] (.bool true)∧g = 0) ∨ (¬ w64 ((A : Int).tmod 10 * (B : Int).tmod 10) <= 64∧Q = []∧g = 2)):=by
  by_cases h : A % 10 * (B % 10) <= 64
  ·exact ⟨_,_,pwr_comp [] (by omega) (by omega) h,.inl ⟨by omega,same1 _ (by omega),rfl⟩⟩
  ·exact ⟨_,_,Compose_big [] (pwr_poly (by omega)) (pwr_poly (by omega)) (by rw [pwr_len,pwr_len]; simp only [Nat.add_sub_cancel]; omega),.inr ⟨by omega,rfl,rfl⟩⟩
 obtain ⟨Q,g,co,hc⟩:=co
 exact limits_walk c1 c2 pn pa pb on ck (power_spec03 [] (by omega)) (power_spec03 [] (by omega)) mu ec ed co (fun _ => pab) (fun _ => pcd) hm hc
end Ab
