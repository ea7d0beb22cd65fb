import Derived.Test.YtpjjbhhoagocjaaGreatDoorXStep
import Derived.Test.YtpjjbhhoagocjaaGreatDoorXFT
import Derived.Test.YtpjjbhhoagocjaaGreatDoorXDig
import Derived.Laws.Bits64b
open Go Go.Proofs
namespace Ab
set_option maxRecDepth 100000
abbrev lim (l : List Int) : AV:=.sl (irows .u32 l)
theorem trim_take {l : List Int} {n : Nat} (_ : n < l.length) (h0 : l[n]? = some 0) (h : Dg.trim (l.take (n + 1)) = Dg.trim l) : Dg.trim (l.take n) = Dg.trim l:=by
 rw [<- h]
 have e : l.take (n + 1) = l.take n ++ [0]:=by rw [List.take_add_one,h0]; rfl
 rw [e]
 generalize l.take n = m
 induction m with
 | nil => rfl
 | cons x m ih => rw [List.cons_append,Dg.trim,Dg.trim,ih]
theorem trimmed_spec (gl : List (Nat × AV)) (l : List Int) (hl : (l.length : Int) <= 9223372036854775807) : Spec Tryz.prog gl 115 [lim l] (lim (Dg.trim l)):=by
 refine spec_fn T_ok mixed_ok 0 Tryz.func115 fn_ok115 (by kernel_rfl) ?_
 refine aw_loop (fun n : Nat => stOf [(0,lim l),(3,.int .i64 (n : Int))] [] 0) (fun n => n <= l.length∧Dg.trim (l.take n) = Dg.trim l) (fun n => n) l.length ⟨Nat.le_refl _,by rw [List.take_length]⟩
  (le_by ⟨rfl,int_eq (by rw [irows_len]),trivial⟩ trivial (Nat.le_refl _)) ?_
 rintro n ⟨hn,ht⟩ P hP
 have fin : (n = 0 ∨ ∃ x,l[n - 1]? = some x∧x ≠ 0) -> l.take n = Dg.trim l:=by
  intro hc
  rw [<- ht]
  refine (Dg.trim_of_canon ?_).symm
  intro x hx
  rcases hc with rfl | ⟨y,hy,hy0⟩
  ·simp at hx
  ·have hn0 : n ≠ 0:=fun e => by subst e; simp at hx
   rw [List.getLast?_eq_getElem?,List.length_take,List.getElem?_take] at hx
   have e : min n l.length - 1 = n - 1:=by omega
   rw [e,if_pos (by omega),hy] at hx
   cases hx; exact hy0
 have last : (n = 0 ∨ ∃ x,l[n - 1]? = some x∧x ≠ 0) -> RowsOk 1 (irows .u32 l)∧(AV.sl (((irows .u32 l).take n).drop 0)) = lim (Dg.trim l):=fun hc => ⟨irows_ok _ _,by rw [List.drop_zero,irows_take,fin hc]⟩
 refine br (fun h1 => ?_) (fun h1 => ?_)
 ·have hn0 : 0 < n:=by have : (n : Int) > 0:=h1; omega
  obtain ⟨x,hx⟩ : ∃ x,l[n - 1]? = some x:=⟨l[n - 1]'(by omega),List.getElem?_eq_getElem (by omega)⟩
  have hw : w64 ((n : Int) - 1) = ((n - 1 : Nat) : Int):=by rw [w64_eq (by omega)]; omega
  repeat (first | refine gT ?_ | refine gF ?_ | refine brT ?_ | refine brF ?_)
  refine And.intro (show (0 : Int) <= w64 ((n : Int) - 1) by omega) (Exists.intro _ (And.intro (irows_at (x:=x) (by rw [show (w64 ((n : Int) - 1)).toNat = n - 1 by omega]; exact hx)) ?_))
  repeat (first | refine gT ?_ | refine gF ?_ | refine brT ?_ | refine brF ?_)
  refine brE (fun h2 => ?_) (fun h2 => ?_)
  ·subst h2
   refine hP (n - 1) _ (le_by ⟨rfl,int_eq hw,trivial⟩ trivial (Nat.le_refl _)) ⟨by omega,?_⟩ (by omega)
   exact trim_take (by omega) hx (by rw [show n - 1 + 1 = n by omega]; exact ht)
  ·clear hP
   have:=last (.inr ⟨x,hx,h2⟩)
   refine And.intro (show (0 : Int) <= (n : Int) by omega) (And.intro (show (n : Int) <= ((irows .u32 l).length : Int) by rw [irows_len]; omega) (And.intro this.1 ?_))
   exact And.intro (Or.inr rfl) this.2
 ·clear hP
  have hn0 : n = 0:=by have : ¬ (n : Int) > 0:=h1; omega
  have:=last (.inl hn0)
  repeat (first | refine gT ?_ | refine gF ?_ | refine brT ?_ | refine brF ?_)
  refine And.intro (show (0 : Int) <= (n : Int) by omega) (And.intro (show (n : Int) <= ((irows .u32 l).length : Int) by rw [irows_len]; omega) (And.intro this.1 ?_))
  exact And.intro (Or.inr rfl) this.2
abbrev mkI (neg : Bool) (l : List Int) : AV:=.agg [.bool neg,lim l]
def resI (neg : Bool) (l : List Int) : AV :=
 if 128 < (Dg.trim l).length then .tup [mkI false [],.int .i64 2] else .tup [mkI (bif neg then decide (0 < (Dg.trim l).length) else false) (Dg.trim l),.int .i64 0]
theorem copied (rows : List (List AV)) (r : List AV) (n : Nat) (hn : n = rows.length) : (((List.replicate n r).take 0 ++ rows.take n ++ (List.replicate n r).drop (0 + min rows.length n)).drop 0).take n = rows:=by
 subst hn; simp
theorem result_spec (gl : List (Nat × AV)) (neg : Bool) (l : List Int) (hl : (l.length : Int) <= 9223372036854775807) : Spec Tryz.prog gl 63 [.bool neg,lim l] (resI neg l):=by
 unfold resI
 have hts:=trimmed_spec gl l hl
 generalize Dg.trim l = t at *
 have hlen : ((irows .u32 t).length : Int) = t.length:=by rw [irows_len]
 refine spec_fn T_ok mixed_ok 0 Tryz.func63 fn_ok63 (by kernel_rfl) ?_
 first | refine Exists.intro _ (And.intro (hts) ?_) | refine Hn_by (Exists.intro _ (And.intro (hts) ?_))
 refine br (fun h1 => ?_) (fun h1 => ?_)
 ·have h1' : 128 < t.length:=by have : ((irows .u32 t).length : Int) > 128:=h1; omega
  rw [if_pos h1']
  exact And.intro (Or.inr rfl) rfl
 ·have h1' : ¬ 128 < t.length:=by have : ¬ ((irows .u32 t).length : Int) > 128:=h1; omega
  rw [if_neg h1']
  refine And.intro (show (0 : Int) <= ((irows .u32 t).length : Int) by omega) (And.intro (Int.le_refl _) (And.intro (show ((irows .u32 t).length : Int) * 4 <= 140737488355328 by omega) (And.intro (show ((irows .u32 t).length : Int) <= maxLen by simp [maxLen]; omega) ?_)))
  refine And.intro (irows_ok _ _) (And.intro (by show 0 + ((irows .u32 t).length : Int).toNat <= (List.replicate _ _).length; simp) ?_)
  cases neg with
  | true =>
   repeat (first | refine gT ?_ | refine gF ?_ | refine brT ?_ | refine brF ?_)
   refine And.intro (Or.inr rfl) ?_
   refine And.intro (by simp) ?_
   have e:=copied (irows .u32 t) [AV.int .u32 0] ((irows .u32 t).length : Int).toNat (by simp)
   show AV.tup [AV.agg [AV.bool (decide (((irows .u32 t).length : Int) > 0)),AV.sl _],AV.int .i64 0] = _
   rw [show decide (((irows .u32 t).length : Int) > 0) = decide (0 < t.length) by rw [irows_len]; simp]
   exact congrArg (fun x => AV.tup [AV.agg [AV.bool (decide (0 < t.length)),AV.sl x],AV.int .i64 0]) e
  | false =>
   repeat (first | refine gT ?_ | refine gF ?_ | refine brT ?_ | refine brF ?_)
   refine And.intro (Or.inr rfl) ?_
   refine And.intro (by simp) ?_
   have e:=copied (irows .u32 t) [AV.int .u32 0] ((irows .u32 t).length : Int).toNat (by simp)
   exact congrArg (fun x => AV.tup [AV.agg [AV.bool false,AV.sl x],AV.int .i64 0]) e
def az (z : Int) : Int:=(z.natAbs : Int)
theorem az_nn (z : Int) : 0 <= az z:=Int.natCast_nonneg _
abbrev mkZ (z : Int) : AV:=mkI (decide (z < 0)) (Dg.mag (az z))
def resZ (z : Int) : AV:=if 128 < (Dg.mag (az z)).length then .tup [mkI false [],.int .i64 2] else .tup [mkZ z,.int .i64 0]
theorem mag_nil {n : Int} (h : 0 <= n) : Dg.mag n = [] ↔ n = 0:=by
 constructor
 ·intro e
  have:=Dg.magV h
  rw [e] at this; simpa [Dg.val] using this.symm
 ·intro e; rw [e]; exact Dg.mag_zero (by omega)
theorem resI_eq (neg : Bool) {l : List Int} (h : Dg.D l) : resI neg l = resZ (if neg then - Dg.val l else Dg.val l):=by
 have hv:=Dg.val_nonneg h
 have ha : az (if neg then - Dg.val l else Dg.val l) = Dg.val l:=by unfold az; split <;> omega
 unfold resI resZ
 rw [ha,Dg.trim_mag h]
 have hn : (0 < (Dg.mag (Dg.val l)).length) ↔ 0 < Dg.val l:=by
  rw [List.length_pos_iff]
  rw [Ne,mag_nil hv]; omega
 by_cases h1 : 128 < (Dg.mag (Dg.val l)).length
 ·rw [if_pos h1,if_pos h1]
 ·rw [if_neg h1,if_neg h1]
  have e : (bif neg then decide (0 < (Dg.mag (Dg.val l)).length) else false) = decide ((if neg then - Dg.val l else Dg.val l) < 0):=by
   cases neg with
   | true => simp only [cond_true,if_true]; rw [decide_eq_decide,hn]; omega
   | false => simp only [cond_false]; symm; rw [decide_eq_false_iff_not]; simp; omega
  rw [e]
  show _ = AV.tup [mkI _ (Dg.mag (az _)),_]
  rw [ha]
theorem resZ_ok {z : Int} (h : (Dg.mag (az z)).length <= 128) : resZ z = .tup [mkZ z,.int .i64 0]:=by unfold resZ; rw [if_neg (by omega)]
abbrev u64 (n : Int) : Int:=IntKind.u64.wrap n
abbrev u32 (n : Int) : Int:=IntKind.u32.wrap n
theorem u64_eq (n : Int) : u64 n = n % 18446744073709551616:=by rw [u64,IntKind.wrap]; rfl
theorem u32_eq (n : Int) : u32 n = n % 4294967296:=IntKind.wrap_u32 n
theorem two_limbs (m : Int) (_h0 : 0 <= m) (_h1 : m < 18446744073709551616) : Dg.D [u32 m,u32 (m.fdiv (2 ^ 32))]∧Dg.val [u32 m,u32 (m.fdiv (2 ^ 32))] = m:=by
 have e : m.fdiv (2 ^ 32) = m / 4294967296:=by rw [Int.fdiv_eq_ediv_of_nonneg _ (by decide)]; rfl
 rw [e,u32_eq,u32_eq]
 refine ⟨Dg.D.cons.2 ⟨by simp only [Dg.B]; omega,Dg.D.cons.2 ⟨by simp only [Dg.B]; omega,Dg.D.nil⟩⟩,?_⟩
 simp only [Dg.val,Dg.B]; omega
theorem Of_spec (gl : List (Nat × AV)) (n : Int) (h0 : -9223372036854775808 <= n) (h1 : n <= 9223372036854775807) : Spec Tryz.prog gl 27 [.int .i64 n] (mkZ n):=by
 have main : ∀ m : Int,m = az n -> Spec Tryz.prog gl 63 [.bool (decide (n < 0)),lim [u32 m,u32 (m.fdiv (2 ^ 32))]] (.tup [mkZ n,.int .i64 0]):=by
  intro m hm
  have hb : 0 <= m∧m < 18446744073709551616:=by rw [hm]; unfold az; omega
  obtain ⟨hd,hv⟩:=two_limbs m hb.1 hb.2
  have:=result_spec gl (decide (n < 0)) [u32 m,u32 (m.fdiv (2 ^ 32))] (by simp)
  rw [resI_eq _ hd,hv] at this
  have e : (if decide (n < 0) = true then - m else m) = n:=by
   rw [hm]; unfold az
   by_cases h : n < 0
   ·simp only [h,decide_true,if_true]; omega
   ·simp only [h,decide_false,Bool.false_eq_true,if_false]; omega
  rw [e,resZ_ok (by
   have:=Dg.mag_len_lt (n:=az n) (k:=2) (az_nn n) (by rw [<- hm]; simp only [Dg.B]; omega)
   omega)] at this
  exact this
 refine spec_fn T_ok mixed_ok 0 Tryz.func27 fn_ok27 (by kernel_rfl) ?_
 refine br (fun hn => ?_) (fun hn => ?_)
 ·refine And.intro (show (0 : Int) <= 32 by decide) ?_
  refine And.intro (Nat.le_refl 2) ?_
  refine Exists.intro _ (And.intro (main (u64 (0 - u64 n)) (by rw [u64_eq,u64_eq]; unfold az; omega)) ?_)
  exact And.intro (Or.inr rfl) rfl
 ·refine And.intro (show (0 : Int) <= 32 by decide) ?_
  refine And.intro (Nat.le_refl 2) ?_
  refine Exists.intro _ (And.intro (main (u64 n) (by rw [u64_eq]; unfold az; omega)) ?_)
  exact And.intro (Or.inr rfl) rfl
theorem compare_spec (gl : List (Nat × AV)) {a b : List Int} (ha : Dg.D a) (hb : Dg.D b) (ca : Dg.Canon a) (cb : Dg.Canon b) (hl : (a.length : Int) <= 9223372036854775807) :
  Spec Tryz.prog gl 117 [lim a,lim b] (.int .i64 (Dg.cmp (Dg.val a) (Dg.val b))):=by
 refine spec_fn T_ok mixed_ok 0 Tryz.func117 fn_ok117 (by kernel_rfl) ?_
 have ea:=irows_len .u32 a
 have eb:=irows_len .u32 b
 refine brN (fun h1 => ?_) (fun h1 => ?_)
 ·refine br (fun h2 => ?_) (fun h2 => ?_)
  ·refine And.intro (Or.inr rfl) ?_
   have:=Dg.lt_len ha hb cb (by have : ((irows .u32 a).length : Int) < ((irows .u32 b).length : Int):=h2; omega)
   show AV.int .i64 (-1) = _
   unfold Dg.cmp; rw [if_pos this]
  ·refine And.intro (Or.inr rfl) ?_
   have:=Dg.lt_len hb ha ca (by have : ¬ ((irows .u32 a).length : Int) < ((irows .u32 b).length : Int):=h2; omega)
   show AV.int .i64 1 = _
   unfold Dg.cmp; rw [if_neg (by omega),if_pos this]
 ·have hlen : a.length = b.length:=by omega
  refine aw_loop (fun k : Nat => stOf [(0,lim a),(1,lim b),(18,.int .i64 (a.length : Int)),(19,.int .i64 (k : Int))] [] 0) (fun k => k <= a.length∧a.drop (a.length - k) = b.drop (a.length - k)) (fun k => a.length - k) 0
   ⟨Nat.zero_le _,by simp [hlen]⟩ (le_by ⟨rfl,rfl,int_eq (by rw [irows_len]),rfl,trivial⟩ trivial (Nat.le_refl _)) ?_
  rintro k ⟨hk,hd⟩ P hP
  refine br (fun h2 => ?_) (fun h2 => ?_)
  ·have h2' : k < a.length:=by have : (k : Int) < (a.length : Int):=h2; omega
   have hw1 : w64 (((irows .u32 a).length : Int) - 1) = (a.length : Int) - 1:=by rw [ea,w64_eq (by omega)]
   have hw : w64 (w64 (((irows .u32 a).length : Int) - 1) - k) = ((a.length - 1 - k : Nat) : Int):=by rw [hw1,w64_eq (by omega)]; omega
   obtain ⟨x,hx⟩ : ∃ x,a[a.length - 1 - k]? = some x:=⟨a[a.length - 1 - k]'(by omega),List.getElem?_eq_getElem (by omega)⟩
   obtain ⟨y,hy⟩ : ∃ y,b[a.length - 1 - k]? = some y:=⟨b[a.length - 1 - k]'(by omega),List.getElem?_eq_getElem (by omega)⟩
   have hd' : a.drop (a.length - 1 - k + 1) = b.drop (a.length - 1 - k + 1):=by rw [show a.length - 1 - k + 1 = a.length - k by omega]; exact hd
   have ix : (irows .u32 a)[(w64 (w64 (((irows .u32 a).length : Int) - 1) - k)).toNat]? = some [.int .u32 x]:=irows_at (by rw [hw]; exact hx)
   have iy : (irows .u32 b)[(w64 (w64 (((irows .u32 a).length : Int) - 1) - k)).toNat]? = some [.int .u32 y]:=irows_at (by rw [hw]; exact hy)
   have i0 : 0 <= w64 (w64 (((irows .u32 a).length : Int) - 1) - k):=by omega
   refine And.intro (by kernel_rfl) (And.intro i0 (Exists.intro _ (And.intro ix (And.intro i0 (Exists.intro _ (And.intro iy ?_))))))
   refine brN (fun h3 => ?_) (fun h3 => ?_)
   ·refine And.intro (by kernel_rfl) (And.intro i0 (Exists.intro _ (And.intro ix (And.intro i0 (Exists.intro _ (And.intro iy ?_))))))
    refine br (fun h4 => ?_) (fun h4 => ?_)
    ·refine And.intro (Or.inr rfl) ?_
     have:=Dg.lt_at ha hb hx hy hd' h4
     show AV.int .i64 (-1) = _
     unfold Dg.cmp; rw [if_pos this]
    ·refine And.intro (Or.inr rfl) ?_
     have:=Dg.lt_at hb ha hy hx hd'.symm (by have : ¬ x < y:=h4; have : x ≠ y:=h3; omega)
     show AV.int .i64 1 = _
     unfold Dg.cmp; rw [if_neg (by omega),if_pos this]
   ·have hw2 : w64 ((k : Int) + 1) = ((k + 1 : Nat) : Int):=by rw [w64_eq (by omega)]; omega
    refine hP (k + 1) _ (le_by ⟨rfl,rfl,rfl,int_eq hw2,trivial⟩ trivial (Nat.le_refl _)) ⟨by omega,?_⟩ (by omega)
    rw [show a.length - (k + 1) = a.length - 1 - k by omega]
    have e1:=List.getElem?_eq_some_iff.1 hx; have e2:=List.getElem?_eq_some_iff.1 hy
    rw [<- List.getElem_cons_drop e1.1,<- List.getElem_cons_drop e2.1,hd',e1.2,e2.2]
    have h3 : x = y:=h3
    rw [h3]
  ·have h2' : k = a.length:=by have : ¬ (k : Int) < (a.length : Int):=h2; omega
   subst h2'
   clear hP
   rw [Nat.sub_self] at hd
   simp at hd
   refine And.intro (Or.inr rfl) ?_
   show AV.int .i64 0 = _
   rw [hd]; unfold Dg.cmp; rw [if_neg (by omega),if_neg (by omega)]
theorem getD_some {l : List Int} {i : Nat} (h : i < l.length) : l[i]? = some (l.getD i 0):=by
 rw [List.getD_eq_getElem?_getD,List.getElem?_eq_getElem h]; rfl
theorem u64_in {n : Int} (h : 0 <= n∧n < 18446744073709551616) : u64 n = n:=by rw [u64_eq]; omega
theorem u32_in {n : Int} (h : 0 <= n∧n < 4294967296) : u32 n = n:=by rw [u32_eq]; omega
theorem shr32 {n : Int} (_ : 0 <= n) : n.fdiv (2 ^ 32) = n / Dg.B:=by rw [Int.fdiv_eq_ediv_of_nonneg _ (by decide)]; rfl
theorem copied2 (a : List Int) : ((List.replicate (a.length + 1) [AV.int .u32 0]).take 0 ++ (irows .u32 a).take (a.length + 1) ++ (List.replicate (a.length + 1) [AV.int .u32 0]).drop (0 + min (irows .u32 a).length (a.length + 1))) = irows .u32 (a ++ [0]):=by
 simp [irows,List.take_of_length_le]
theorem sum_spec (gl : List (Nat × AV)) {a b : List Int} (ha : Dg.D a) (hb : Dg.D b) (hla : a.length <= 1073741824) (hlb : b.length <= 1073741824) :
  Spec Tryz.prog gl 116 [lim a,lim b] (lim (Dg.mag (Dg.val a + Dg.val b))):=by
 refine spec_fn T_ok mixed_ok 0 Tryz.func116 fn_ok116 (by kernel_rfl) ?_
 refine br (fun h1 => ?_) (fun h1 => ?_)
 ·have hab : a.length <= b.length:=by have : ((irows .u32 a).length : Int) < ((irows .u32 b).length : Int):=h1; rw [irows_len,irows_len] at this; omega
  rw [Int.add_comm]
  have hn1 : w64 (((irows .u32 b).length : Int) + 1) = ((b.length + 1 : Nat) : Int):=by rw [irows_len,w64_eq (by omega)]; omega
  refine And.intro (show (0 : Int) <= w64 (((irows .u32 b).length : Int) + 1) by omega) (And.intro (Int.le_refl _) (And.intro (show w64 (((irows .u32 b).length : Int) + 1) * 4 <= 140737488355328 by omega) (And.intro (show w64 (((irows .u32 b).length : Int) + 1) <= maxLen by simp [maxLen]; omega) ?_)))
  have hn2 : (w64 (((irows .u32 b).length : Int) + 1)).toNat = b.length + 1:=by omega
  refine And.intro (irows_ok _ _) (And.intro (show 0 + (w64 (((irows .u32 b).length : Int) + 1)).toNat <= (List.replicate (w64 (((irows .u32 b).length : Int) + 1)).toNat [AV.int .u32 0]).length by simp) ?_)
  refine aw_loop (fun q : Nat × List Int × Int => stOf [(0,lim b),(1,lim a),(5,.ms 0 0 (b.length + 1)),(6,.int .u64 q.2.2),(24,.int .i64 (b.length : Int)),(25,.int .i64 (q.1 : Int))] [(0,.arr (60,1) (irows .u32 q.2.1) true)] 1)
   (fun q => q.1 <= b.length∧Dg.D q.2.1∧q.2.1.length = b.length + 1∧(0 <= q.2.2∧q.2.2 <= 1)∧Dg.val (q.2.1.take q.1) + Dg.B ^ q.1 * q.2.2 = Dg.val (b.take q.1) + Dg.val (a.take q.1)) (fun q => b.length - q.1) (0,b ++ [0],0)
   ⟨Nat.zero_le _,Dg.D.app.2 ⟨hb,Dg.D.cons.2 ⟨by decide,Dg.D.nil⟩⟩,by simp,⟨Int.le_refl 0,by show (0 : Int) <= 1; decide⟩,by simp [Dg.val]⟩
   (le_by ⟨rfl,rfl,(show AV.ms 0 0 (w64 (((irows .u32 b).length : Int) + 1)).toNat = _ by rw [hn2]),rfl,int_eq (by rw [irows_len]),rfl,trivial⟩ ⟨(show some (Blk.arr (60,1) ((List.replicate (w64 (((irows .u32 b).length : Int) + 1)).toNat [AV.int .u32 0]).take 0 ++ (irows .u32 b).take (w64 (((irows .u32 b).length : Int) + 1)).toNat ++ (List.replicate (w64 (((irows .u32 b).length : Int) + 1)).toNat [AV.int .u32 0]).drop (0 + min (irows .u32 b).length (w64 (((irows .u32 b).length : Int) + 1)).toNat)) true) = _ by rw [hn2,copied2]),trivial⟩ (Nat.le_refl _)) ?_
  rintro ⟨i,o,c⟩ ⟨hi,ho,hol,hc,hv⟩ P hP
  simp only at hi ho hol hc hv
  refine br (fun h2 => ?_) (fun h2 => ?_)
  ·have h2' : i < b.length:=by have : (i : Int) < (b.length : Int):=h2; omega
   have ax:=Dg.getD_bd hb i
   have bx:=Dg.getD_bd ha i
   have ix : (irows .u32 b)[((i : Int)).toNat]? = some [.int .u32 (b.getD i 0)]:=irows_at (getD_some h2')
   refine And.intro (show (0 : Int) <= (i : Int) by omega) (Exists.intro _ (And.intro ix ?_))
   simp only [Dg.B] at ax bx
   have e1 : u64 (u64 (b.getD i 0) + c) = b.getD i 0 + c:=by rw [u64_in (n:=b.getD i 0) (by omega),u64_in (by omega)]
   have hw2 : w64 ((i : Int) + 1) = ((i + 1 : Nat) : Int):=by rw [w64_eq (by omega)]; omega
   have hoi : (irows .u32 o)[0 + ((i : Int)).toNat]? = some [.int .u32 (o.getD i 0)]:=irows_at (by rw [Nat.zero_add]; exact getD_some (by omega))
   refine br (fun h3 => ?_) (fun h3 => ?_)
   ·have h3' : i < a.length:=by have : (i : Int) < ((irows .u32 a).length : Int):=h3; rw [irows_len] at this; omega
    have iy : (irows .u32 a)[((i : Int)).toNat]? = some [.int .u32 (a.getD i 0)]:=irows_at (getD_some h3')
    refine And.intro (show (0 : Int) <= (i : Int) by omega) (Exists.intro _ (And.intro iy ?_))
    have e2 : u64 (u64 (u64 (b.getD i 0) + c) + u64 (a.getD i 0)) = b.getD i 0 + a.getD i 0 + c:=by rw [e1,u64_in (n:=a.getD i 0) (by omega),u64_in (by omega)]; omega
    refine And.intro (show (0 : Int) <= (i : Int) by omega) (And.intro (show (i : Int) < ((b.length + 1 : Nat) : Int) by omega) (Exists.intro _ (And.intro hoi ?_)))
    refine And.intro (show (0 : Int) <= 32 by decide) ?_
    have e3 : u32 (u64 (u64 (u64 (b.getD i 0) + c) + u64 (a.getD i 0))) = (b.getD i 0 + a.getD i 0 + c) % Dg.B:=by rw [e2,u32_eq]
    have e4 : (u64 (u64 (u64 (b.getD i 0) + c) + u64 (a.getD i 0))).fdiv (2 ^ 32) = (b.getD i 0 + a.getD i 0 + c) / Dg.B:=by rw [e2,shr32 (by omega)]
    refine hP (i + 1,o.set i ((b.getD i 0 + a.getD i 0 + c) % Dg.B),(b.getD i 0 + a.getD i 0 + c) / Dg.B) _ (le_by ⟨rfl,rfl,rfl,int_eq e4,rfl,int_eq hw2,trivial⟩ ⟨(show some (Blk.arr (60,1) ((irows .u32 o).set (0 + (i : Int).toNat) [.int .u32 (u32 (u64 (u64 (u64 (b.getD i 0) + c) + u64 (a.getD i 0))))]) true) = _ by rw [e3,Nat.zero_add,irows_set]; rfl),trivial⟩ (Nat.le_refl _))
     ⟨by show i + 1 <= _; omega,ho.set (by simp only [Dg.B]; omega) (by simp only [Dg.B]; omega),by simp [hol],by simp only [Dg.B]; omega,?_⟩ (by show b.length - (i + 1) < b.length - i; omega)
    show Dg.val ((o.set i _).take (i + 1)) + Dg.B ^ (i + 1) * _ = _
    rw [Dg.set_take _ _ _ (by omega),Dg.take_succ b,Dg.take_succ a,Int.pow_succ]
    exact Dg.sum_step hv rfl
   ·have h3' : ¬ i < a.length:=by have : ¬ (i : Int) < ((irows .u32 a).length : Int):=h3; rw [irows_len] at this; omega
    have b0 : a.getD i 0 = 0:=by rw [List.getD_eq_getElem?_getD,List.getElem?_eq_none (by omega)]; rfl
    refine And.intro (show (0 : Int) <= (i : Int) by omega) (And.intro (show (i : Int) < ((b.length + 1 : Nat) : Int) by omega) (Exists.intro _ (And.intro hoi ?_)))
    refine And.intro (show (0 : Int) <= 32 by decide) ?_
    have e3 : u32 (u64 (u64 (b.getD i 0) + c)) = (b.getD i 0 + a.getD i 0 + c) % Dg.B:=by rw [e1,u32_eq,b0,Int.add_zero]
    have e4 : (u64 (u64 (b.getD i 0) + c)).fdiv (2 ^ 32) = (b.getD i 0 + a.getD i 0 + c) / Dg.B:=by rw [e1,shr32 (by omega),b0,Int.add_zero]
    refine hP (i + 1,o.set i ((b.getD i 0 + a.getD i 0 + c) % Dg.B),(b.getD i 0 + a.getD i 0 + c) / Dg.B) _ (le_by ⟨rfl,rfl,rfl,int_eq e4,rfl,int_eq hw2,trivial⟩ ⟨(show some (Blk.arr (60,1) ((irows .u32 o).set (0 + (i : Int).toNat) [.int .u32 (u32 (u64 (u64 (b.getD i 0) + c)))]) true) = _ by rw [e3,Nat.zero_add,irows_set]; rfl),trivial⟩ (Nat.le_refl _))
     ⟨by show i + 1 <= _; omega,ho.set (by simp only [Dg.B]; omega) (by simp only [Dg.B]; omega),by simp [hol],by simp only [Dg.B]; omega,?_⟩ (by show b.length - (i + 1) < b.length - i; omega)
    show Dg.val ((o.set i _).take (i + 1)) + Dg.B ^ (i + 1) * _ = _
    rw [Dg.set_take _ _ _ (by omega),Dg.take_succ b,Dg.take_succ a,Int.pow_succ]
    exact Dg.sum_step hv rfl
  ·have h2' : i = b.length:=by have : ¬ (i : Int) < (b.length : Int):=h2; omega
   subst h2'
   clear hP
   have hoi : (irows .u32 o)[0 + (((irows .u32 b).length : Int)).toNat]? = some [.int .u32 (o.getD b.length 0)]:=irows_at (by rw [Nat.zero_add,irows_len]; exact getD_some (by omega))
   refine And.intro (show (0 : Int) <= ((irows .u32 b).length : Int) by omega) (And.intro (show ((irows .u32 b).length : Int) < ((b.length + 1 : Nat) : Int) by rw [irows_len]; omega) (Exists.intro _ (And.intro hoi ?_)))
   have hfin : Dg.val (o.set b.length c) = Dg.val b + Dg.val a:=by
    have h5:=Dg.set_take o b.length c (by omega)
    rw [List.take_of_length_le (by simp; omega)] at h5
    rw [h5,hv,List.take_of_length_le (Nat.le_refl _),List.take_of_length_le hab]
   have hts:=trimmed_spec gl (o.set b.length c) (by simp; omega)
   rw [Dg.trim_mag (ho.set (by omega) (by simp only [Dg.B]; omega)),hfin] at hts
   have e5 : (((irows .u32 o).set (0 + ((irows .u32 b).length : Int).toNat) [.int .u32 (u32 c)]).drop 0).take (b.length + 1) = irows .u32 (o.set b.length c):=by
    rw [irows_len,u32_in (by omega),Nat.zero_add,List.drop_zero,irows_set,irows_take]
    rw [List.take_of_length_le (by simp; omega)]; rfl
   rw [show lim (o.set b.length c) = AV.sl (irows .u32 (o.set b.length c)) from rfl,<- e5] at hts
   refine And.intro (show 0 + (b.length + 1) <= ((irows .u32 o).set (0 + ((irows .u32 b).length : Int).toNat) [.int .u32 (u32 c)]).length by rw [List.length_set,irows_len]; omega) ?_
   refine Exists.intro _ (And.intro hts ?_)
   exact And.intro (Or.inr rfl) rfl
 ·have hab : b.length <= a.length:=by have : ¬ ((irows .u32 a).length : Int) < ((irows .u32 b).length : Int):=h1; rw [irows_len,irows_len] at this; omega
  have hn1 : w64 (((irows .u32 a).length : Int) + 1) = ((a.length + 1 : Nat) : Int):=by rw [irows_len,w64_eq (by omega)]; omega
  refine And.intro (show (0 : Int) <= w64 (((irows .u32 a).length : Int) + 1) by omega) (And.intro (Int.le_refl _) (And.intro (show w64 (((irows .u32 a).length : Int) + 1) * 4 <= 140737488355328 by omega) (And.intro (show w64 (((irows .u32 a).length : Int) + 1) <= maxLen by simp [maxLen]; omega) ?_)))
  have hn2 : (w64 (((irows .u32 a).length : Int) + 1)).toNat = a.length + 1:=by omega
  refine And.intro (irows_ok _ _) (And.intro (show 0 + (w64 (((irows .u32 a).length : Int) + 1)).toNat <= (List.replicate (w64 (((irows .u32 a).length : Int) + 1)).toNat [AV.int .u32 0]).length by simp) ?_)
  refine aw_loop (fun q : Nat × List Int × Int => stOf [(0,lim a),(1,lim b),(5,.ms 0 0 (a.length + 1)),(6,.int .u64 q.2.2),(24,.int .i64 (a.length : Int)),(25,.int .i64 (q.1 : Int))] [(0,.arr (60,1) (irows .u32 q.2.1) true)] 1)
   (fun q => q.1 <= a.length∧Dg.D q.2.1∧q.2.1.length = a.length + 1∧(0 <= q.2.2∧q.2.2 <= 1)∧Dg.val (q.2.1.take q.1) + Dg.B ^ q.1 * q.2.2 = Dg.val (a.take q.1) + Dg.val (b.take q.1)) (fun q => a.length - q.1) (0,a ++ [0],0)
   ⟨Nat.zero_le _,Dg.D.app.2 ⟨ha,Dg.D.cons.2 ⟨by decide,Dg.D.nil⟩⟩,by simp,⟨Int.le_refl 0,by show (0 : Int) <= 1; decide⟩,by simp [Dg.val]⟩
   (le_by ⟨rfl,rfl,(show AV.ms 0 0 (w64 (((irows .u32 a).length : Int) + 1)).toNat = _ by rw [hn2]),rfl,int_eq (by rw [irows_len]),rfl,trivial⟩ ⟨(show some (Blk.arr (60,1) ((List.replicate (w64 (((irows .u32 a).length : Int) + 1)).toNat [AV.int .u32 0]).take 0 ++ (irows .u32 a).take (w64 (((irows .u32 a).length : Int) + 1)).toNat ++ (List.replicate (w64 (((irows .u32 a).length : Int) + 1)).toNat [AV.int .u32 0]).drop (0 + min (irows .u32 a).length (w64 (((irows .u32 a).length : Int) + 1)).toNat)) true) = _ by rw [hn2,copied2]),trivial⟩ (Nat.le_refl _)) ?_
  rintro ⟨i,o,c⟩ ⟨hi,ho,hol,hc,hv⟩ P hP
  simp only at hi ho hol hc hv
  refine br (fun h2 => ?_) (fun h2 => ?_)
  ·have h2' : i < a.length:=by have : (i : Int) < (a.length : Int):=h2; omega
   have ax:=Dg.getD_bd ha i
   have bx:=Dg.getD_bd hb i
   have ix : (irows .u32 a)[((i : Int)).toNat]? = some [.int .u32 (a.getD i 0)]:=irows_at (getD_some h2')
   refine And.intro (show (0 : Int) <= (i : Int) by omega) (Exists.intro _ (And.intro ix ?_))
   simp only [Dg.B] at ax bx
   have e1 : u64 (u64 (a.getD i 0) + c) = a.getD i 0 + c:=by rw [u64_in (n:=a.getD i 0) (by omega),u64_in (by omega)]
   have hw2 : w64 ((i : Int) + 1) = ((i + 1 : Nat) : Int):=by rw [w64_eq (by omega)]; omega
   have hoi : (irows .u32 o)[0 + ((i : Int)).toNat]? = some [.int .u32 (o.getD i 0)]:=irows_at (by rw [Nat.zero_add]; exact getD_some (by omega))
   refine br (fun h3 => ?_) (fun h3 => ?_)
   ·have h3' : i < b.length:=by have : (i : Int) < ((irows .u32 b).length : Int):=h3; rw [irows_len] at this; omega
    have iy : (irows .u32 b)[((i : Int)).toNat]? = some [.int .u32 (b.getD i 0)]:=irows_at (getD_some h3')
    refine And.intro (show (0 : Int) <= (i : Int) by omega) (Exists.intro _ (And.intro iy ?_))
    have e2 : u64 (u64 (u64 (a.getD i 0) + c) + u64 (b.getD i 0)) = a.getD i 0 + b.getD i 0 + c:=by rw [e1,u64_in (n:=b.getD i 0) (by omega),u64_in (by omega)]; omega
    refine And.intro (show (0 : Int) <= (i : Int) by omega) (And.intro (show (i : Int) < ((a.length + 1 : Nat) : Int) by omega) (Exists.intro _ (And.intro hoi ?_)))
    refine And.intro (show (0 : Int) <= 32 by decide) ?_
    have e3 : u32 (u64 (u64 (u64 (a.getD i 0) + c) + u64 (b.getD i 0))) = (a.getD i 0 + b.getD i 0 + c) % Dg.B:=by rw [e2,u32_eq]
    have e4 : (u64 (u64 (u64 (a.getD i 0) + c) + u64 (b.getD i 0))).fdiv (2 ^ 32) = (a.getD i 0 + b.getD i 0 + c) / Dg.B:=by rw [e2,shr32 (by omega)]
    refine hP (i + 1,o.set i ((a.getD i 0 + b.getD i 0 + c) % Dg.B),(a.getD i 0 + b.getD i 0 + c) / Dg.B) _ (le_by ⟨rfl,rfl,rfl,int_eq e4,rfl,int_eq hw2,trivial⟩ ⟨(show some (Blk.arr (60,1) ((irows .u32 o).set (0 + (i : Int).toNat) [.int .u32 (u32 (u64 (u64 (u64 (a.getD i 0) + c) + u64 (b.getD i 0))))]) true) = _ by rw [e3,Nat.zero_add,irows_set]; rfl),trivial⟩ (Nat.le_refl _))
     ⟨by show i + 1 <= _; omega,ho.set (by simp only [Dg.B]; omega) (by simp only [Dg.B]; omega),by simp [hol],by simp only [Dg.B]; omega,?_⟩ (by show a.length - (i + 1) < a.length - i; omega)
    show Dg.val ((o.set i _).take (i + 1)) + Dg.B ^ (i + 1) * _ = _
    rw [Dg.set_take _ _ _ (by omega),Dg.take_succ a,Dg.take_succ b,Int.pow_succ]
    exact Dg.sum_step hv rfl
   ·have h3' : ¬ i < b.length:=by have : ¬ (i : Int) < ((irows .u32 b).length : Int):=h3; rw [irows_len] at this; omega
    have b0 : b.getD i 0 = 0:=by rw [List.getD_eq_getElem?_getD,List.getElem?_eq_none (by omega)]; rfl
    refine And.intro (show (0 : Int) <= (i : Int) by omega) (And.intro (show (i : Int) < ((a.length + 1 : Nat) : Int) by omega) (Exists.intro _ (And.intro hoi ?_)))
    refine And.intro (show (0 : Int) <= 32 by decide) ?_
    have e3 : u32 (u64 (u64 (a.getD i 0) + c)) = (a.getD i 0 + b.getD i 0 + c) % Dg.B:=by rw [e1,u32_eq,b0,Int.add_zero]
    have e4 : (u64 (u64 (a.getD i 0) + c)).fdiv (2 ^ 32) = (a.getD i 0 + b.getD i 0 + c) / Dg.B:=by rw [e1,shr32 (by omega),b0,Int.add_zero]
    refine hP (i + 1,o.set i ((a.getD i 0 + b.getD i 0 + c) % Dg.B),(a.getD i 0 + b.getD i 0 + c) / Dg.B) _ (le_by ⟨rfl,rfl,rfl,int_eq e4,rfl,int_eq hw2,trivial⟩ ⟨(show some (Blk.arr (60,1) ((irows .u32 o).set (0 + (i : Int).toNat) [.int .u32 (u32 (u64 (u64 (a.getD i 0) + c)))]) true) = _ by rw [e3,Nat.zero_add,irows_set]; rfl),trivial⟩ (Nat.le_refl _))
     ⟨by show i + 1 <= _; omega,ho.set (by simp only [Dg.B]; omega) (by simp only [Dg.B]; omega),by simp [hol],by simp only [Dg.B]; omega,?_⟩ (by show a.length - (i + 1) < a.length - i; omega)
    show Dg.val ((o.set i _).take (i + 1)) + Dg.B ^ (i + 1) * _ = _
    rw [Dg.set_take _ _ _ (by omega),Dg.take_succ a,Dg.take_succ b,Int.pow_succ]
    exact Dg.sum_step hv rfl
  ·have h2' : i = a.length:=by have : ¬ (i : Int) < (a.length : Int):=h2; omega
   subst h2'
   clear hP
   have hoi : (irows .u32 o)[0 + (((irows .u32 a).length : Int)).toNat]? = some [.int .u32 (o.getD a.length 0)]:=irows_at (by rw [Nat.zero_add,irows_len]; exact getD_some (by omega))
   refine And.intro (show (0 : Int) <= ((irows .u32 a).length : Int) by omega) (And.intro (show ((irows .u32 a).length : Int) < ((a.length + 1 : Nat) : Int) by rw [irows_len]; omega) (Exists.intro _ (And.intro hoi ?_)))
   have hfin : Dg.val (o.set a.length c) = Dg.val a + Dg.val b:=by
    have h5:=Dg.set_take o a.length c (by omega)
    rw [List.take_of_length_le (by simp; omega)] at h5
    rw [h5,hv,List.take_of_length_le (Nat.le_refl _),List.take_of_length_le hab]
   have hts:=trimmed_spec gl (o.set a.length c) (by simp; omega)
   rw [Dg.trim_mag (ho.set (by omega) (by simp only [Dg.B]; omega)),hfin] at hts
   have e5 : (((irows .u32 o).set (0 + ((irows .u32 a).length : Int).toNat) [.int .u32 (u32 c)]).drop 0).take (a.length + 1) = irows .u32 (o.set a.length c):=by
    rw [irows_len,u32_in (by omega),Nat.zero_add,List.drop_zero,irows_set,irows_take]
    rw [List.take_of_length_le (by simp; omega)]; rfl
   rw [show lim (o.set a.length c) = AV.sl (irows .u32 (o.set a.length c)) from rfl,<- e5] at hts
   refine And.intro (show 0 + (a.length + 1) <= ((irows .u32 o).set (0 + ((irows .u32 a).length : Int).toNat) [.int .u32 (u32 c)]).length by rw [List.length_set,irows_len]; omega) ?_
   refine Exists.intro _ (And.intro hts ?_)
   exact And.intro (Or.inr rfl) rfl
theorem shr63 {n : Int} (_ : 0 <= n) : n.fdiv (2 ^ 63) = n / 9223372036854775808:=by rw [Int.fdiv_eq_ediv_of_nonneg _ (by decide)]; rfl
theorem copied3 (a : List Int) : ((List.replicate a.length [AV.int .u32 0]).take 0 ++ (irows .u32 a).take a.length ++ (List.replicate a.length [AV.int .u32 0]).drop (0 + min (irows .u32 a).length a.length)) = irows .u32 a:=by
 have:=irows_len .u32 a
 rw [<- this]; simp
theorem diff_spec (gl : List (Nat × AV)) {a b : List Int} (ha : Dg.D a) (hb : Dg.D b) (hla : a.length <= 1073741824) (hab : b.length <= a.length) (hv0 : Dg.val b <= Dg.val a) :
  Spec Tryz.prog gl 118 [lim a,lim b] (lim (Dg.mag (Dg.val a - Dg.val b))):=by
 refine spec_fn T_ok mixed_ok 0 Tryz.func118 fn_ok118 (by kernel_rfl) ?_
 have hn2 : ((irows .u32 a).length : Int).toNat = a.length:=by rw [irows_len]; omega
 have la : ((irows .u32 a).length : Int) = a.length:=by rw [irows_len]
 refine And.intro (show (0 : Int) <= ((irows .u32 a).length : Int) by omega) (And.intro (Int.le_refl _) (And.intro (show ((irows .u32 a).length : Int) * 4 <= 140737488355328 by omega) (And.intro (show ((irows .u32 a).length : Int) <= maxLen by simp [maxLen]; omega) ?_)))
 refine And.intro (irows_ok _ _) (And.intro (show 0 + ((irows .u32 a).length : Int).toNat <= (List.replicate ((irows .u32 a).length : Int).toNat [AV.int .u32 0]).length by simp) ?_)
 refine aw_loop (fun q : Nat × List Int × Int => stOf [(0,lim a),(1,lim b),(5,.ms 0 0 a.length),(6,.int .u64 q.2.2),(16,.int .i64 (a.length : Int)),(17,.int .i64 (q.1 : Int))] [(0,.arr (60,1) (irows .u32 q.2.1) true)] 1)
  (fun q => q.1 <= a.length∧Dg.D q.2.1∧q.2.1.length = a.length∧(0 <= q.2.2∧q.2.2 <= 1)∧Dg.val (q.2.1.take q.1) - Dg.B ^ q.1 * q.2.2 = Dg.val (a.take q.1) - Dg.val (b.take q.1)) (fun q => a.length - q.1) (0,a,0)
  ⟨Nat.zero_le _,ha,rfl,⟨Int.le_refl 0,by show (0 : Int) <= 1; decide⟩,by simp [Dg.val]⟩
  (le_by ⟨rfl,rfl,(show AV.ms 0 0 ((irows .u32 a).length : Int).toNat = _ by rw [hn2]),rfl,int_eq (by rw [irows_len]),rfl,trivial⟩ ⟨(show some (Blk.arr (60,1) ((List.replicate ((irows .u32 a).length : Int).toNat [AV.int .u32 0]).take 0 ++ (irows .u32 a).take ((irows .u32 a).length : Int).toNat ++ (List.replicate ((irows .u32 a).length : Int).toNat [AV.int .u32 0]).drop (0 + min (irows .u32 a).length ((irows .u32 a).length : Int).toNat)) true) = _ by rw [hn2,copied3]),trivial⟩ (Nat.le_refl _)) ?_
 rintro ⟨i,o,c⟩ ⟨hi,ho,hol,hc,hv⟩ P hP
 simp only at hi ho hol hc hv
 refine br (fun h2 => ?_) (fun h2 => ?_)
 ·have h2' : i < a.length:=by have : (i : Int) < (a.length : Int):=h2; omega
  have ax:=Dg.getD_bd ha i
  have bx:=Dg.getD_bd hb i
  have ix : (irows .u32 a)[((i : Int)).toNat]? = some [.int .u32 (a.getD i 0)]:=irows_at (getD_some h2')
  refine And.intro (show (0 : Int) <= (i : Int) by omega) (Exists.intro _ (And.intro ix ?_))
  simp only [Dg.B] at ax bx
  have e1 : u64 (u64 (a.getD i 0) - c) = (a.getD i 0 - c) % 18446744073709551616:=by rw [u64_in (n:=a.getD i 0) (by omega),u64_eq]
  have hw2 : w64 ((i : Int) + 1) = ((i + 1 : Nat) : Int):=by rw [w64_eq (by omega)]; omega
  have hoi : (irows .u32 o)[0 + ((i : Int)).toNat]? = some [.int .u32 (o.getD i 0)]:=irows_at (by rw [Nat.zero_add]; exact getD_some (by omega))
  refine br (fun h3 => ?_) (fun h3 => ?_)
  ·have h3' : i < b.length:=by have : (i : Int) < ((irows .u32 b).length : Int):=h3; rw [irows_len] at this; omega
   have iy : (irows .u32 b)[((i : Int)).toNat]? = some [.int .u32 (b.getD i 0)]:=irows_at (getD_some h3')
   refine And.intro (show (0 : Int) <= (i : Int) by omega) (Exists.intro _ (And.intro iy ?_))
   have e2 : u64 (u64 (u64 (a.getD i 0) - c) - u64 (b.getD i 0)) = (a.getD i 0 - b.getD i 0 - c) % 18446744073709551616:=by rw [e1,u64_in (n:=b.getD i 0) (by omega),u64_eq]; omega
   refine And.intro (show (0 : Int) <= (i : Int) by omega) (And.intro (show (i : Int) < (a.length : Int) by omega) (Exists.intro _ (And.intro hoi ?_)))
   refine And.intro (show (0 : Int) <= 63 by decide) ?_
   have e3 : u32 (u64 (u64 (u64 (a.getD i 0) - c) - u64 (b.getD i 0))) = (a.getD i 0 - b.getD i 0 - c) % Dg.B:=by rw [e2,u32_eq]; simp only [Dg.B]; omega
   obtain ⟨q,hq⟩ : ∃ q : Int,q = if a.getD i 0 - b.getD i 0 - c < 0 then 1 else 0:=⟨_,rfl⟩
   have hqb : 0 <= q∧q <= 1:=by rw [hq]; split <;> omega
   have e4 : (u64 (u64 (u64 (a.getD i 0) - c) - u64 (b.getD i 0))).fdiv (2 ^ 63) = q:=by rw [e2,shr63 (by omega),hq]; split <;> omega
   refine hP (i + 1,o.set i ((a.getD i 0 - b.getD i 0 - c) % Dg.B),q) _ (le_by ⟨rfl,rfl,rfl,int_eq e4,rfl,int_eq hw2,trivial⟩ ⟨(show some (Blk.arr (60,1) ((irows .u32 o).set (0 + (i : Int).toNat) [.int .u32 (u32 (u64 (u64 (u64 (a.getD i 0) - c) - u64 (b.getD i 0))))]) true) = _ by rw [e3,Nat.zero_add,irows_set]; rfl),trivial⟩ (Nat.le_refl _))
    ⟨by show i + 1 <= _; omega,ho.set (by simp only [Dg.B]; omega) (by simp only [Dg.B]; omega),by simp [hol],hqb,?_⟩ (by show a.length - (i + 1) < a.length - i; omega)
   show Dg.val ((o.set i _).take (i + 1)) - Dg.B ^ (i + 1) * q = _
   rw [Dg.set_take _ _ _ (by omega),Dg.take_succ a,Dg.take_succ b,Int.pow_succ]
   have e6 : (a.getD i 0 - b.getD i 0 - c) % Dg.B = (a.getD i 0 - b.getD i 0 - c) + Dg.B * q:=by rw [hq]; simp only [Dg.B]; split <;> omega
   rw [e6]
   generalize Dg.B ^ i = P at *
   grind
  ·have h3' : ¬ i < b.length:=by have : ¬ (i : Int) < ((irows .u32 b).length : Int):=h3; rw [irows_len] at this; omega
   have b0 : b.getD i 0 = 0:=by rw [List.getD_eq_getElem?_getD,List.getElem?_eq_none (by omega)]; rfl
   have e2 : u64 (u64 (a.getD i 0) - c) = (a.getD i 0 - b.getD i 0 - c) % 18446744073709551616:=by rw [e1,b0,Int.sub_zero]
   refine And.intro (show (0 : Int) <= (i : Int) by omega) (And.intro (show (i : Int) < (a.length : Int) by omega) (Exists.intro _ (And.intro hoi ?_)))
   refine And.intro (show (0 : Int) <= 63 by decide) ?_
   have e3 : u32 (u64 (u64 (a.getD i 0) - c)) = (a.getD i 0 - b.getD i 0 - c) % Dg.B:=by rw [e2,u32_eq]; simp only [Dg.B]; omega
   obtain ⟨q,hq⟩ : ∃ q : Int,q = if a.getD i 0 - b.getD i 0 - c < 0 then 1 else 0:=⟨_,rfl⟩
   have hqb : 0 <= q∧q <= 1:=by rw [hq]; split <;> omega
   have e4 : (u64 (u64 (a.getD i 0) - c)).fdiv (2 ^ 63) = q:=by rw [e2,shr63 (by omega),hq]; split <;> omega
   refine hP (i + 1,o.set i ((a.getD i 0 - b.getD i 0 - c) % Dg.B),q) _ (le_by ⟨rfl,rfl,rfl,int_eq e4,rfl,int_eq hw2,trivial⟩ ⟨(show some (Blk.arr (60,1) ((irows .u32 o).set (0 + (i : Int).toNat) [.int .u32 (u32 (u64 (u64 (a.getD i 0) - c)))]) true) = _ by rw [e3,Nat.zero_add,irows_set]; rfl),trivial⟩ (Nat.le_refl _))
    ⟨by show i + 1 <= _; omega,ho.set (by simp only [Dg.B]; omega) (by simp only [Dg.B]; omega),by simp [hol],hqb,?_⟩ (by show a.length - (i + 1) < a.length - i; omega)
   show Dg.val ((o.set i _).take (i + 1)) - Dg.B ^ (i + 1) * q = _
   rw [Dg.set_take _ _ _ (by omega),Dg.take_succ a,Dg.take_succ b,Int.pow_succ]
   have e6 : (a.getD i 0 - b.getD i 0 - c) % Dg.B = (a.getD i 0 - b.getD i 0 - c) + Dg.B * q:=by rw [hq]; simp only [Dg.B]; split <;> omega
   rw [e6]
   generalize Dg.B ^ i = P at *
   grind
 ·have h2' : i = a.length:=by have : ¬ (i : Int) < (a.length : Int):=h2; omega
  subst h2'
  clear hP
  rw [List.take_of_length_le (by omega),List.take_of_length_le (Nat.le_refl _),List.take_of_length_le hab] at hv
  have hlt:=Dg.val_lt ho
  rw [hol] at hlt
  have hc0 : c = 0:=by
   refine Classical.byContradiction fun hc0 => ?_
   have : c = 1:=by omega
   subst this
   omega
  subst hc0
  have hts:=trimmed_spec gl o (by omega)
  rw [Dg.trim_mag ho,show Dg.val o = Dg.val a - Dg.val b by omega] at hts
  have e5 : ((irows .u32 o).drop 0).take a.length = irows .u32 o:=by
   rw [List.drop_zero,List.take_of_length_le (by rw [irows_len]; omega)]
  rw [show lim o = AV.sl (irows .u32 o) from rfl,<- e5] at hts
  refine And.intro (show 0 + a.length <= (irows .u32 o).length by rw [irows_len]; omega) ?_
  refine Exists.intro _ (And.intro hts ?_)
  exact And.intro (Or.inr rfl) rfl
theorem or_limb {r x : Int} (hr : 0 <= r∧r < 4294967296) (hx : 0 <= x∧x < 4294967296) : Go.bits .or .u64 (u64 (r * 2 ^ 32)) (u64 x) = r * 4294967296 + x:=by
 obtain ⟨a,rfl⟩:=Int.eq_ofNat_of_zero_le hr.1
 obtain ⟨b,rfl⟩:=Int.eq_ofNat_of_zero_le hx.1
 rw [u64_in (n:=(a : Int) * 2 ^ 32) (by omega),u64_in (n:=(b : Int)) (by omega)]
 have e : ((a : Int) * 2 ^ 32) = ((a * 2 ^ 32 : Nat) : Int):=by simp
 rw [e,bits_or_u64_nat _ _ (by omega) (by omega)]
 have:=Nat.shiftLeft_add_eq_or_of_lt (a:=a) (b:=b) (i:=32) (by omega)
 rw [Nat.shiftLeft_eq] at this
 rw [<- this]
 simp
theorem small_spec (gl : List (Nat × AV)) {a : List Int} {d : Int} (ha : Dg.D a) (hd : 0 < d∧d < 4294967296) (hla : a.length <= 1073741824) :
  Spec Tryz.prog gl 159 [lim a,.int .u32 d] (.tup [lim (Dg.mag (Dg.val a / d)),.int .u32 (Dg.val a % d)]):=by
 refine spec_fn T_ok mixed_ok 0 Tryz.func159 fn_ok159 (by kernel_rfl) ?_
 have hn2 : ((irows .u32 a).length : Int).toNat = a.length:=by rw [irows_len]; omega
 have la : ((irows .u32 a).length : Int) = a.length:=by rw [irows_len]
 have hdu : u64 d = d:=u64_in (by omega)
 refine And.intro (show (0 : Int) <= ((irows .u32 a).length : Int) by omega) (And.intro (Int.le_refl _) (And.intro (show ((irows .u32 a).length : Int) * 4 <= 140737488355328 by omega) (And.intro (show ((irows .u32 a).length : Int) <= maxLen by simp [maxLen]; omega) ?_)))
 refine aw_loop (fun q : Nat × List Int × Int => stOf [(0,lim a),(1,.int .u32 d),(6,.ms 0 0 a.length),(7,.int .u64 q.2.2),(15,.int .i64 (a.length : Int)),(16,.int .i64 (q.1 : Int))] [(0,.arr (60,1) (irows .u32 q.2.1) true)] 1)
  (fun q => q.1 <= a.length∧Dg.D q.2.1∧q.2.1.length = a.length∧(0 <= q.2.2∧q.2.2 < d)∧Dg.val (q.2.1.drop (a.length - q.1)) * d + q.2.2 = Dg.val (a.drop (a.length - q.1))) (fun q => a.length - q.1) (0,List.replicate a.length 0,0)
  ⟨Nat.zero_le _,Dg.D.rep _,by simp,⟨Int.le_refl 0,hd.1⟩,by simp [Dg.val]⟩
  (le_by ⟨rfl,rfl,(show AV.ms 0 0 ((irows .u32 a).length : Int).toNat = _ by rw [hn2]),rfl,int_eq (by rw [irows_len]),rfl,trivial⟩ ⟨(show some (Blk.arr (60,1) (List.replicate ((irows .u32 a).length : Int).toNat [AV.int .u32 0]) true) = _ by rw [hn2,irows_rep]),trivial⟩ (Nat.le_refl _)) ?_
 rintro ⟨k,o,r⟩ ⟨hk,ho,hol,hr,hv⟩ P hP
 simp only at hk ho hol hr hv
 refine br (fun h2 => ?_) (fun h2 => ?_)
 ·have h2' : k < a.length:=by have : (k : Int) < (a.length : Int):=h2; omega
  have hw1 : w64 (((irows .u32 a).length : Int) - 1) = (a.length : Int) - 1:=by rw [la,w64_eq (by omega)]
  have hw : w64 (w64 (((irows .u32 a).length : Int) - 1) - k) = ((a.length - 1 - k : Nat) : Int):=by rw [hw1,w64_eq (by omega)]; omega
  obtain ⟨i,hi⟩ : ∃ i,i = a.length - 1 - k:=⟨_,rfl⟩
  rw [<- hi] at hw
  have ax:=Dg.getD_bd ha i
  simp only [Dg.B] at ax
  have ix : (irows .u32 a)[(w64 (w64 (((irows .u32 a).length : Int) - 1) - k)).toNat]? = some [.int .u32 (a.getD i 0)]:=irows_at (by rw [hw]; exact getD_some (by omega))
  have i0 : 0 <= w64 (w64 (((irows .u32 a).length : Int) - 1) - k):=by omega
  have hoi : (irows .u32 o)[0 + (w64 (w64 (((irows .u32 a).length : Int) - 1) - k)).toNat]? = some [.int .u32 (o.getD i 0)]:=irows_at (by rw [Nat.zero_add,hw]; exact getD_some (by omega))
  have ho1:=or_limb (r:=r) (x:=a.getD i 0) (by omega) (by omega)
  obtain ⟨t,ht⟩ : ∃ t,t = r * 4294967296 + a.getD i 0:=⟨_,rfl⟩
  rw [<- ht] at ho1
  have ht0 : 0 <= t∧t < 18446744073709551616:=by omega
  have htd : t / d < 4294967296:=Int.ediv_lt_of_lt_mul hd.1 (by
   have : (r + 1) * 4294967296 <= d * 4294967296:=Int.mul_le_mul_of_nonneg_right (by omega) (by decide)
   rw [Int.add_mul,Int.one_mul] at this
   rw [Int.mul_comm]; omega)
  have htd0 : 0 <= t / d:=Int.ediv_nonneg ht0.1 (by omega)
  have htm:=Int.emod_nonneg t (show d ≠ 0 by omega)
  have htm2:=Int.emod_lt_of_pos t hd.1
  have hd0 : u64 d ≠ 0:=by omega
  refine And.intro (show (0 : Int) <= 32 by decide) (And.intro i0 (Exists.intro _ (And.intro ix ?_)))
  refine And.intro hd0 (And.intro i0 (And.intro (show w64 (w64 (((irows .u32 a).length : Int) - 1) - k) < (a.length : Int) by omega) (Exists.intro _ (And.intro hoi ?_))))
  refine And.intro hd0 ?_
  have e3 : u32 (u64 ((Go.bits .or .u64 (u64 (r * 2 ^ 32)) (u64 (a.getD i 0))).tdiv (u64 d))) = t / d:=by
   rw [ho1,hdu,Int.tdiv_eq_ediv_of_nonneg ht0.1,u64_in (by omega),u32_in (by omega)]
  have e4 : (Go.bits .or .u64 (u64 (r * 2 ^ 32)) (u64 (a.getD i 0))).tmod (u64 d) = t % d:=by
   rw [ho1,hdu,Int.tmod_eq_emod_of_nonneg ht0.1]
  have hw2 : w64 ((k : Int) + 1) = ((k + 1 : Nat) : Int):=by rw [w64_eq (by omega)]; omega
  refine hP (k + 1,o.set i (t / d),t % d) _ (le_by ⟨rfl,rfl,rfl,int_eq e4,rfl,int_eq hw2,trivial⟩ ⟨(show some (Blk.arr (60,1) ((irows .u32 o).set (0 + (w64 (w64 (((irows .u32 a).length : Int) - 1) - k)).toNat) [.int .u32 (u32 (u64 ((Go.bits .or .u64 (u64 (r * 2 ^ 32)) (u64 (a.getD i 0))).tdiv (u64 d))))]) true) = _ by rw [e3,Nat.zero_add,hw,irows_set]; rfl),trivial⟩ (Nat.le_refl _))
   ⟨by show k + 1 <= _; omega,ho.set htd0 htd,by simp [hol],⟨htm,htm2⟩,?_⟩ (by show a.length - (k + 1) < a.length - k; omega)
  show Dg.val ((o.set i (t / d)).drop (a.length - (k + 1))) * d + t % d = _
  rw [show a.length - (k + 1) = i by omega]
  rw [show a.length - k = i + 1 by omega] at hv
  have e5 : (o.set i (t / d)).drop i = t / d :: o.drop (i + 1):=by
   rw [List.drop_set,if_neg (by omega),Nat.sub_self,List.drop_eq_getElem_cons (by omega)]; rfl
  have e6 : a.drop i = a.getD i 0 :: a.drop (i + 1):=by
   rw [List.drop_eq_getElem_cons (by omega),List.getD_eq_getElem?_getD,List.getElem?_eq_getElem (by omega)]; rfl
  rw [e5,e6,Dg.val,Dg.val,<- hv]
  have:=Int.emod_add_mul_ediv t d
  simp only [Dg.B]
  grind
 ·have h2' : k = a.length:=by have : ¬ (k : Int) < (a.length : Int):=h2; omega
  subst h2'
  clear hP
  rw [Nat.sub_self,List.drop_zero,List.drop_zero] at hv
  have hq : Dg.val a / d = Dg.val o:=by rw [<- hv,Int.add_comm,Int.add_mul_ediv_right _ _ (by omega),Int.ediv_eq_zero_of_lt hr.1 hr.2,Int.zero_add]
  have hm : Dg.val a % d = r:=by rw [<- hv,Int.add_comm,Int.add_mul_emod_self_right,Int.emod_eq_of_lt hr.1 hr.2]
  rw [hq,hm]
  have hts:=trimmed_spec gl o (by omega)
  rw [Dg.trim_mag ho] at hts
  have e5 : ((irows .u32 o).drop 0).take a.length = irows .u32 o:=by
   rw [List.drop_zero,List.take_of_length_le (by rw [irows_len]; omega)]
  rw [show lim o = AV.sl (irows .u32 o) from rfl,<- e5] at hts
  refine And.intro (show 0 + a.length <= (irows .u32 o).length by rw [irows_len]; omega) ?_
  refine Exists.intro _ (And.intro hts ?_)
  refine And.intro (Or.inr rfl) ?_
  show AV.tup [_,AV.int .u32 (u32 r)] = _
  rw [u32_in (by omega)]
theorem product_spec (gl : List (Nat × AV)) {a b : List Int} (ha : Dg.D a) (hb : Dg.D b) (hla : a.length <= 536870912) (hlb : b.length <= 536870912) :
  Spec Tryz.prog gl 65 [lim a,lim b] (lim (Dg.mag (Dg.val a * Dg.val b))):=by
 refine spec_fn T_ok mixed_ok 0 Tryz.func65 fn_ok65 (by kernel_rfl) ?_
 have la : ((irows .u32 a).length : Int) = a.length:=by rw [irows_len]
 have lb : ((irows .u32 b).length : Int) = b.length:=by rw [irows_len]
 have hs : w64 (((irows .u32 a).length : Int) + ((irows .u32 b).length : Int)) = ((a.length + b.length : Nat) : Int):=by rw [la,lb,w64_eq (by omega)]; omega
 have hsn : (w64 (((irows .u32 a).length : Int) + ((irows .u32 b).length : Int))).toNat = a.length + b.length:=by omega
 refine And.intro (show (0 : Int) <= w64 (((irows .u32 a).length : Int) + ((irows .u32 b).length : Int)) by omega) (And.intro (Int.le_refl _) (And.intro (show w64 (((irows .u32 a).length : Int) + ((irows .u32 b).length : Int)) * 4 <= 140737488355328 by omega) (And.intro (show w64 (((irows .u32 a).length : Int) + ((irows .u32 b).length : Int)) <= maxLen by simp [maxLen]; omega) ?_)))
 refine aw_loop (fun q : Nat × List Int => stOf [(0,lim a),(1,lim b),(5,.ms 0 0 (a.length + b.length)),(17,.int .i64 (a.length : Int)),(18,.int .i64 (q.1 : Int))] [(0,.arr (60,1) (irows .u32 q.2) true)] 1)
  (fun q => q.1 <= a.length∧Dg.D q.2∧q.2.length = a.length + b.length∧(∀ j,q.1 + b.length <= j -> q.2.getD j 0 = 0)∧Dg.val q.2 = Dg.val (a.take q.1) * Dg.val b) (fun q => a.length - q.1) (0,List.replicate (a.length + b.length) 0)
  ⟨Nat.zero_le _,Dg.D.rep _,by simp,fun j _ => by simp [List.getD_eq_getElem?_getD,List.getElem?_replicate]; split <;> rfl,by simp [Dg.val_rep,Dg.val]⟩
  (le_by ⟨rfl,rfl,(show AV.ms 0 0 (w64 (((irows .u32 a).length : Int) + ((irows .u32 b).length : Int))).toNat = _ by rw [hsn]),int_eq (by rw [irows_len]),rfl,trivial⟩ ⟨(show some (Blk.arr (60,1) (List.replicate (w64 (((irows .u32 a).length : Int) + ((irows .u32 b).length : Int))).toNat [AV.int .u32 0]) true) = _ by rw [hsn,irows_rep]),trivial⟩ (Nat.le_refl _)) ?_
 rintro ⟨i,o⟩ ⟨hi,ho,hol,hz,hv⟩ P hP
 simp only at hi ho hol hz hv
 refine br (fun h2 => ?_) (fun h2 => ?_)
 ·have h2' : i < a.length:=by have : (i : Int) < (a.length : Int):=h2; omega
  have ax:=Dg.getD_bd ha i
  have ix : (irows .u32 a)[((i : Int)).toNat]? = some [.int .u32 (a.getD i 0)]:=irows_at (getD_some h2')
  have i0 : 0 <= (i : Int):=by omega
  refine aw_loop (fun q : Nat × List Int × Int => stOf [(0,lim a),(1,lim b),(5,.ms 0 0 (a.length + b.length)),(6,.int .i64 (i : Int)),(7,.int .u64 q.2.2),(17,.int .i64 (a.length : Int)),(18,.int .i64 (i : Int)),(22,.int .i64 (b.length : Int)),(23,.int .i64 (q.1 : Int))] [(0,.arr (60,1) (irows .u32 q.2.1) true)] 1)
   (fun q => q.1 <= b.length∧Dg.D q.2.1∧q.2.1.length = a.length + b.length∧(∀ j,i + b.length <= j -> q.2.1.getD j 0 = 0)∧(0 <= q.2.2∧q.2.2 < Dg.B)∧Dg.val q.2.1 + Dg.B ^ (i + q.1) * q.2.2 = Dg.val o + a.getD i 0 * (Dg.B ^ i * Dg.val (b.take q.1))) (fun q => b.length - q.1) (0,o,0)
   ⟨Nat.zero_le _,ho,hol,hz,⟨Int.le_refl 0,by show (0 : Int) < Dg.B; decide⟩,by simp [Dg.val]⟩
   (le_by ⟨rfl,rfl,rfl,rfl,rfl,rfl,rfl,int_eq lb,rfl,trivial⟩ ⟨rfl,trivial⟩ (Nat.le_refl _)) ?_
  rintro ⟨k,u,c⟩ ⟨hk,hu,hul,huz,hc,huv⟩ P' hP'
  simp only at hk hu hul huz hc huv
  refine br (fun h3 => ?_) (fun h3 => ?_)
  ·have h3' : k < b.length:=by have : (k : Int) < (b.length : Int):=h3; omega
   have bx:=Dg.getD_bd hb k
   have ux:=Dg.getD_bd hu (i + k)
   have iy : (irows .u32 b)[((k : Int)).toNat]? = some [.int .u32 (b.getD k 0)]:=irows_at (getD_some h3')
   have hw : w64 ((i : Int) + k) = ((i + k : Nat) : Int):=by rw [w64_eq (by omega)]; omega
   have hoi : (irows .u32 u)[0 + (w64 ((i : Int) + k)).toNat]? = some [.int .u32 (u.getD (i + k) 0)]:=irows_at (by rw [hw,Nat.zero_add]; exact getD_some (by simp; omega))
   have hbd:=Dg.mul_bd ax bx ux hc
   simp only [Dg.B] at ax bx ux hc
   obtain ⟨t,ht⟩ : ∃ t,t = a.getD i 0 * b.getD k 0 + u.getD (i + k) 0 + c:=⟨_,rfl⟩
   rw [<- ht] at hbd
   have e1 : u64 (u64 (u64 (u64 (a.getD i 0) * u64 (b.getD k 0)) + u64 (u.getD (i + k) 0)) + c) = t:=by
    rw [u64_in (n:=a.getD i 0) (by omega),u64_in (n:=b.getD k 0) (by omega),u64_in (n:=u.getD (i + k) 0) (by omega),u64_in (n:=a.getD i 0 * b.getD k 0) ⟨hbd.2.2.1,by have:=hbd.2.2.2; omega⟩,u64_in (n:=a.getD i 0 * b.getD k 0 + u.getD (i + k) 0) ⟨by have:=hbd.2.2.1; omega,by have:=hbd.2.1; omega⟩,u64_in (n:=a.getD i 0 * b.getD k 0 + u.getD (i + k) 0 + c) ⟨by have:=hbd.1; omega,by have:=hbd.2.1; omega⟩,ht]
   refine And.intro (by kernel_rfl) ?_
   refine And.intro i0 (Exists.intro _ (And.intro ix ?_))
   refine And.intro (show (0 : Int) <= (k : Int) by omega) (Exists.intro _ (And.intro iy ?_))
   refine And.intro (show (0 : Int) <= w64 ((i : Int) + k) by omega) (And.intro (show w64 ((i : Int) + k) < ((a.length + b.length : Nat) : Int) by omega) (Exists.intro _ (And.intro hoi ?_)))
   refine And.intro (show (0 : Int) <= w64 ((i : Int) + k) by omega) (And.intro (show w64 ((i : Int) + k) < ((a.length + b.length : Nat) : Int) by omega) (Exists.intro _ (And.intro hoi ?_)))
   refine And.intro (show (0 : Int) <= 32 by decide) ?_
   have e3 : u32 (u64 (u64 (u64 (u64 (a.getD i 0) * u64 (b.getD k 0)) + u64 (u.getD (i + k) 0)) + c)) = t % Dg.B:=by rw [e1,u32_eq]
   have e4 : (u64 (u64 (u64 (u64 (a.getD i 0) * u64 (b.getD k 0)) + u64 (u.getD (i + k) 0)) + c)).fdiv (2 ^ 32) = t / Dg.B:=by rw [e1,shr32 hbd.1]
   have hw2 : w64 ((k : Int) + 1) = ((k + 1 : Nat) : Int):=by rw [w64_eq (by omega)]; omega
   refine hP' (k + 1,u.set (i + k) (t % Dg.B),t / Dg.B) _ (le_by ⟨rfl,rfl,rfl,rfl,int_eq e4,rfl,rfl,rfl,int_eq hw2,trivial⟩ ⟨(show some (Blk.arr (60,1) ((irows .u32 u).set (0 + (w64 ((i : Int) + k)).toNat) [.int .u32 (u32 (u64 (u64 (u64 (u64 (a.getD i 0) * u64 (b.getD k 0)) + u64 (u.getD (i + k) 0)) + c)))]) true) = _ by rw [e3,hw,Nat.zero_add,irows_set]; rfl),trivial⟩ (Nat.le_refl _))
    ⟨by show k + 1 <= _; omega,hu.set (by simp only [Dg.B]; omega) (by simp only [Dg.B]; omega),by simp [hul],fun j hj => ?_,by simp only [Dg.B]; omega,?_⟩ (by show b.length - (k + 1) < b.length - k; omega)
   ·have:=huz j hj
    rw [List.getD_eq_getElem?_getD] at this ⊢
    rw [List.getElem?_set_ne (by omega)]; exact this
   ·show Dg.val (u.set (i + k) (t % Dg.B)) + Dg.B ^ (i + (k + 1)) * (t / Dg.B) = Dg.val o + a.getD i 0 * (Dg.B ^ i * Dg.val (b.take (k + 1)))
    rw [Dg.val_set _ _ _ (by omega),Dg.take_succ b,<- Nat.add_assoc,Int.pow_succ,Int.pow_add] at *
    have e6 : t % Dg.B + Dg.B * (t / Dg.B) = t:=Int.emod_add_mul_ediv t Dg.B
    generalize t % Dg.B = q1 at *
    generalize t / Dg.B = q2 at *
    generalize Dg.B ^ i = X at *
    generalize Dg.B ^ k = Y at *
    generalize Dg.val u = U at *
    generalize Dg.val (b.take k) = W at *
    have e7 : X * Y * (t - u.getD (i + k) 0) = X * Y * (a.getD i 0 * b.getD k 0 + c):=by congr 1; omega
    grind
  ·have h3' : k = b.length:=by have : ¬ (k : Int) < (b.length : Int):=h3; omega
   subst h3'
   clear hP'
   have hw : w64 ((i : Int) + ((irows .u32 b).length : Int)) = ((i + b.length : Nat) : Int):=by rw [lb,w64_eq (by omega)]; omega
   have hoi : (irows .u32 u)[0 + (w64 ((i : Int) + ((irows .u32 b).length : Int))).toNat]? = some [.int .u32 (u.getD (i + b.length) 0)]:=irows_at (by rw [hw,Nat.zero_add]; exact getD_some (by simp; omega))
   refine And.intro (show (0 : Int) <= w64 ((i : Int) + ((irows .u32 b).length : Int)) by omega) (And.intro (show w64 ((i : Int) + ((irows .u32 b).length : Int)) < ((a.length + b.length : Nat) : Int) by omega) (Exists.intro _ (And.intro hoi ?_)))
   have hw2 : w64 ((i : Int) + 1) = ((i + 1 : Nat) : Int):=by rw [w64_eq (by omega)]; omega
   have hc2:=hc
   simp only [Dg.B] at hc2
   have e3 : u32 c = c:=u32_in (by omega)
   refine hP (i + 1,u.set (i + b.length) c) _ (le_by ⟨rfl,rfl,rfl,rfl,int_eq hw2,trivial⟩ ⟨(show some (Blk.arr (60,1) ((irows .u32 u).set (0 + (w64 ((i : Int) + ((irows .u32 b).length : Int))).toNat) [.int .u32 (u32 c)]) true) = _ by rw [e3,hw,Nat.zero_add,irows_set]; rfl),trivial⟩ (Nat.le_refl _))
    ⟨by show i + 1 <= _; omega,hu.set hc.1 hc.2,by simp [hul],fun j hj => ?_,?_⟩ (by show a.length - (i + 1) < a.length - i; omega)
   ·have:=huz j (by have : i + 1 + b.length <= j:=hj; omega)
    have hj' : i + 1 + b.length <= j:=hj
    show (u.set (i + b.length) c).getD j 0 = 0
    rw [List.getD_eq_getElem?_getD] at this ⊢
    rw [List.getElem?_set_ne (by omega)]; exact this
   ·show Dg.val (u.set (i + b.length) c) = Dg.val (a.take (i + 1)) * Dg.val b
    rw [Dg.val_set _ _ _ (by omega),huz _ (Nat.le_refl _),Dg.take_succ a]
    rw [List.take_of_length_le (Nat.le_refl _)] at huv
    rw [hv] at huv
    rw [Int.sub_zero,huv,Int.add_mul]
    grind
 ·have h2' : i = a.length:=by have : ¬ (i : Int) < (a.length : Int):=h2; omega
  subst h2'
  clear hP
  rw [List.take_of_length_le (Nat.le_refl _)] at hv
  rw [<- hv]
  have hts:=trimmed_spec gl o (by omega)
  rw [Dg.trim_mag ho] at hts
  have e5 : ((irows .u32 o).drop 0).take (a.length + b.length) = irows .u32 o:=by
   rw [List.drop_zero,List.take_of_length_le (by rw [irows_len]; omega)]
  rw [show lim o = AV.sl (irows .u32 o) from rfl,<- e5] at hts
  refine And.intro (show 0 + (a.length + b.length) <= (irows .u32 o).length by rw [irows_len]; omega) ?_
  refine Exists.intro _ (And.intro hts ?_)
  exact And.intro (Or.inr rfl) rfl
end Ab
