import Derived.Test.YtpjjbhhoagocjaaGreatDoorXUni1
open Go Go.Proofs
namespace Ab
set_option maxRecDepth 100000
set_option maxHeartbeats 1000000
abbrev polyV (p : List Rat) : AV:=.sl (p.map rv)
def clipN (p : List Rat) : Nat -> List Rat
 | 0 => []
 | k + 1 => if p.getD k 0 = 0 then clipN p k else p.take (k + 1)
def clipP (p : List Rat) : List Rat:=clipN p p.length
theorem poly_len (p : List Rat) : (((p.map rv).length : Nat) : Int) = (p.length : Int):=by rw [List.length_map]
theorem poly_at {p : List Rat} {k : Nat} (h : k < p.length) : (p.map rv)[k]? = some (rv (p.getD k 0)):=by
 rw [List.getElem?_map,List.getElem?_eq_getElem h]
 simp [List.getD,List.getElem?_eq_getElem h]
theorem poly_take (p : List Rat) (k j : Nat) : ((((p.take k).map rv).take j).drop 0) = (p.take (min k j)).map rv:=by
 rw [List.drop_zero,<- List.map_take,List.take_take,Nat.min_comm]
theorem sl_eq {a b : List (List AV)} (h : a = b) : AV.sl a = AV.sl b:=by rw [h]
def AllRF (p : List Rat) : Prop:=∀ r ∈ p,RF r
theorem AllRF.at {p : List Rat} (h : AllRF p) {k : Nat} (hk : k < p.length) : RF (p.getD k 0):=by
 have : p.getD k 0 = p[k]:=by simp [List.getD,List.getElem?_eq_getElem hk]
 rw [this]
 exact h _ (List.getElem_mem hk)
theorem rV_int (n : Int) : mkR (n / Int.gcd n 1) (1 / Int.gcd n 1) = rV (n : Rat):=by
 rw [mk_red (n:=n) (d:=1) (by decide),Rat.divInt_eq_div]
 congr 1
 grind
theorem of_uni (gl : List (Nat × AV)) {n : Int} (h0 : -9223372036854775808 <= n) (h1 : n <= 9223372036854775807) : Spec Tryz.prog gl 59 [.int .i64 n] (rV (n : Rat)):=by
 have o:=ratof_int gl h0 h1 (d:=1) (by decide) (by decide)
 rw [rV_int] at o
 unfold rV rv at o ⊢
 refine spec_fn T_ok mixed_ok 0 Tryz.func59 fn_ok59 (by kernel_rfl) ?_
 first | refine Exists.intro _ (And.intro (o) ?_) | refine Hn_by (Exists.intro _ (And.intro (o) ?_))
 exact And.intro (Or.inr rfl) rfl
theorem must_spec (gl : List (Nat × AV)) (r : Rat) : Spec Tryz.prog gl 69 [rV r,.int .i64 0] (rV r):=by
 unfold rV rv
 refine spec_fn T_ok mixed_ok 0 Tryz.func69 fn_ok69 (by kernel_rfl) ?_
 repeat (first | refine gT ?_ | refine gF ?_ | refine brT ?_ | refine brF ?_)
 exact And.intro (Or.inr rfl) rfl
theorem clip_spec (gl : List (Nat × AV)) {p : List Rat} (hp : AllRF p) (hl : p.length <= 1000000) : Spec Tryz.prog gl 80 [polyV p] (polyV (clipP p)):=by
 refine spec_fn T_ok mixed_ok 0 Tryz.func80 fn_ok80 (by kernel_rfl) ?_
 refine aw_loop (fun k : Nat => stOf [(0,polyV (p.take k))] [] 0) (fun k => k <= p.length ∧ clipP p = clipN p k) (fun k => k) p.length ⟨Nat.le_refl _,rfl⟩
  (le_by ⟨sl_eq (by rw [List.take_length]),trivial⟩ trivial (Nat.le_refl _)) ?_
 rintro k ⟨hk,hc⟩ P hP
 cases k with
 | zero =>
  refine br (fun g => absurd (show ((0 : Nat) : Int) > 0 from g) (by decide)) (fun _ => ?_)
  repeat (first | refine gT ?_ | refine gF ?_ | refine brT ?_ | refine brF ?_)
  clear hP
  rw [hc]
  exact And.intro (Or.inr rfl) rfl
 | succ k =>
  have hlen : ((((p.take (k + 1)).map rv).length : Nat) : Int) = (k : Int) + 1:=by rw [poly_len,List.length_take]; omega
  refine br (fun _ => ?_) (fun g => ?_)
  ·have hw : w64 ((((p.take (k + 1)).map rv).length : Int) - 1) = (k : Int):=by rw [w64_eq (by omega)]; omega
   have hx : ((p.take (k + 1)).map rv)[(w64 ((((p.take (k + 1)).map rv).length : Int) - 1)).toNat]? = some (rv (p.getD k 0)):=by
    rw [hw,Int.toNat_natCast,poly_at (by rw [List.length_take]; omega)]
    congr 2
    simp [List.getD]
   have s:=sign_rat gl (hp.at (k:=k) (by omega))
   repeat (first | refine gT ?_ | refine gF ?_ | refine brT ?_ | refine brF ?_)
   refine And.intro (show (0 : Int) <= w64 ((((p.take (k + 1)).map rv).length : Int) - 1) by omega) (Exists.intro _ (And.intro hx ?_))
   repeat (first | refine gT ?_ | refine gF ?_ | refine brT ?_ | refine brF ?_)
   first | refine Exists.intro _ (And.intro (s) ?_) | refine Hn_by (Exists.intro _ (And.intro (s) ?_))
   repeat (first | refine gT ?_ | refine gF ?_ | refine brT ?_ | refine brF ?_)
   refine brE (fun e => ?_) (fun e => ?_)
   ·refine And.intro (show (0 : Int) <= w64 ((((p.take (k + 1)).map rv).length : Int) - 1) by omega) ?_
    refine And.intro (show w64 ((((p.take (k + 1)).map rv).length : Int) - 1) <= (((p.take (k + 1)).map rv).length : Int) by omega) ?_
    refine And.intro ?_ ?_
    ·intro r hr
     obtain ⟨q,_,rfl⟩:=List.mem_map.1 hr
     rfl
    refine hP k _ (le_by ⟨sl_eq ?_,trivial⟩ trivial (Nat.le_refl _)) ⟨by omega,?_⟩ (by omega)
    ·show ((((p.take (k + 1)).map rv).take (w64 ((((p.take (k + 1)).map rv).length : Int) - 1)).toNat).drop 0) = _
     rw [hw,Int.toNat_natCast,poly_take,Nat.min_eq_right (by omega)]
    ·rw [hc]
     unfold clipN
     rw [if_pos (sgR_zero.1 e)]
     cases k <;> rfl
   ·rw [hc]
    clear hP
    unfold clipN
    rw [if_neg fun e2 => e (sgR_zero.2 e2)]
    exact And.intro (Or.inr rfl) rfl
  ·have g' : ¬ ((((p.take (k + 1)).map rv).length : Nat) : Int) > 0:=g
   omega
def Poly (p : List Rat) : Prop:=AllRF p ∧ p.length <= 65 ∧ ∀ h : p ≠ [],p.getLast h ≠ 0
theorem Poly.last {p : List Rat} (h : Poly p) {k : Nat} (hk : p.length = k + 1) : p.getD k 0 ≠ 0:=by
 have hn : p ≠ []:=fun e => by subst e; simp at hk
 have:=h.2.2 hn
 rw [List.getLast_eq_getElem] at this
 have e : p.getD k 0 = p[p.length - 1]'(by omega):=by
  simp [List.getD,hk]
 rw [e]; exact this
theorem check_spec (gl : List (Nat × AV)) {p : List Rat} (hp : Poly p) : Spec Tryz.prog gl 34 [polyV p] (.int .i64 0):=by
 have hlen:=poly_len p
 have h65:=hp.2.1
 refine spec_fn T_ok mixed_ok 3 Tryz.func34 fn_ok34 (by kernel_rfl) ?_
 refine Hn_in Tryz.f77 Tryz.func77 fn_ok77 (by kernel_rfl) ?_
 refine Hn_in Tryz.f124 Tryz.func124 fn_ok124 (by kernel_rfl) ?_
 refine aw_loop (fun i : Nat => stOf [(0,polyV p),(1,.fn 78 []),(7,.int .i64 (p.length : Int)),(8,.int .i64 (i : Int))] [] 0) (fun i => i <= p.length) (fun i => p.length - i) 0 (Nat.zero_le _)
  (le_by ⟨rfl,rfl,int_eq hlen,rfl,trivial⟩ trivial (Nat.le_refl _)) ?_
 intro i hi P hP
 refine br (fun g => ?_) (fun g => ?_)
 ·have g : i < p.length:=Int.ofNat_lt.1 g
  have s:=valid_rat gl (hp.1.at g)
  refine And.intro (Int.natCast_nonneg i) (Exists.intro _ (And.intro (by rw [Int.toNat_natCast]; exact poly_at g) ?_))
  repeat (first | refine gT ?_ | refine gF ?_ | refine brT ?_ | refine brF ?_)
  refine Hn_cut Tryz.f78 Tryz.func78 fn_ok78 (by kernel_rfl) ?_
  first | refine Exists.intro _ (And.intro (s) ?_) | refine Hn_by (Exists.intro _ (And.intro (s) ?_))
  refine And.intro (Or.inr rfl) (And.intro rfl (And.intro trivial ?_))
  repeat (first | refine gT ?_ | refine gF ?_ | refine brT ?_ | refine brF ?_)
  refine hP (i + 1) _ (le_by ⟨rfl,rfl,rfl,int_eq ?_,trivial⟩ trivial (Nat.le_refl _)) g (by omega)
  have : w64 ((i : Int) + 1) = ((i + 1 : Nat) : Int):=by rw [w64_eq (by omega)]; omega
  exact this
 ·clear hP
  refine And.intro (Or.inr rfl) ?_
  refine And.intro (Or.inr rfl) ?_
  repeat (first | refine gT ?_ | refine gF ?_ | refine brT ?_ | refine brF ?_)
  cases hc : p.length with
  | zero =>
   refine br (fun g => ?_) (fun _ => ?_)
   ·have g' : (((p.map rv).length : Nat) : Int) > 0:=g
    omega
   ·repeat (first | refine gT ?_ | refine gF ?_ | refine brT ?_ | refine brF ?_)
    refine br (fun g => ?_) (fun _ => ?_)
    ·have g' : (((p.map rv).length : Nat) : Int) > 65:=g
     omega
    ·exact And.intro (Or.inr rfl) rfl
  | succ k =>
   refine br (fun _ => ?_) (fun g => ?_)
   ·have hw : w64 (((p.map rv).length : Int) - 1) = (k : Int):=by rw [w64_eq (by omega)]; omega
    have s:=sign_rat gl (hp.1.at (k:=k) (by omega))
    repeat (first | refine gT ?_ | refine gF ?_ | refine brT ?_ | refine brF ?_)
    refine And.intro (show (0 : Int) <= w64 (((p.map rv).length : Int) - 1) by omega) (Exists.intro _ (And.intro (show (p.map rv)[(w64 (((p.map rv).length : Int) - 1)).toNat]? = some (rv (p.getD k 0)) by rw [hw,Int.toNat_natCast]; exact poly_at (by omega)) ?_))
    repeat (first | refine gT ?_ | refine gF ?_ | refine brT ?_ | refine brF ?_)
    first | refine Exists.intro _ (And.intro (s) ?_) | refine Hn_by (Exists.intro _ (And.intro (s) ?_))
    repeat (first | refine gT ?_ | refine gF ?_ | refine brT ?_ | refine brF ?_)
    refine brE (fun e => absurd (sgR_zero.1 e) (hp.last hc)) (fun _ => ?_)
    repeat (first | refine gT ?_ | refine gF ?_ | refine brT ?_ | refine brF ?_)
    refine br (fun g => ?_) (fun _ => ?_)
    ·have g' : (((p.map rv).length : Nat) : Int) > 65:=g
     omega
    ·exact And.intro (Or.inr rfl) rfl
   ·have g' : ¬ (((p.map rv).length : Nat) : Int) > 0:=g
    omega
theorem want_spec (gl : List (Nat × AV)) {l : List (List Rat)} (hl : ∀ p ∈ l,Poly p) (hn : l.length <= 1000000) : Spec Tryz.prog gl 51 [.sl (l.map fun p => [polyV p])] (.tup []):=by
 have hlen : (((l.map fun p => [polyV p]).length : Nat) : Int) = (l.length : Int):=by rw [List.length_map]
 refine spec_fn T_ok mixed_ok 0 Tryz.func51 fn_ok51 (by kernel_rfl) ?_
 refine aw_loop (fun i : Nat => stOf [(5,.sl (l.map fun p => [polyV p])),(6,.int .i64 (l.length : Int)),(7,.int .i64 (i : Int))] [] 0) (fun i => i <= l.length) (fun i => l.length - i) 0 (Nat.zero_le _)
  (le_by ⟨rfl,int_eq hlen,rfl,trivial⟩ trivial (Nat.le_refl _)) ?_
 intro i hi P hP
 refine br (fun g => ?_) (fun g => ?_)
 ·have g : i < l.length:=Int.ofNat_lt.1 g
  have s:=check_spec gl (hl l[i] (List.getElem_mem g))
  refine And.intro (Int.natCast_nonneg i) (Exists.intro _ (And.intro (show (l.map fun p => [polyV p])[((i : Int)).toNat]? = some [polyV l[i]] by rw [Int.toNat_natCast,List.getElem?_map,List.getElem?_eq_getElem g]; rfl) ?_))
  repeat (first | refine gT ?_ | refine gF ?_ | refine brT ?_ | refine brF ?_)
  first | refine Exists.intro _ (And.intro (s) ?_) | refine Hn_by (Exists.intro _ (And.intro (s) ?_))
  repeat (first | refine gT ?_ | refine gF ?_ | refine brT ?_ | refine brF ?_)
  refine hP (i + 1) _ (le_by ⟨rfl,rfl,int_eq ?_,trivial⟩ trivial (Nat.le_refl _)) g (by omega)
  have : w64 ((i : Int) + 1) = ((i + 1 : Nat) : Int):=by rw [w64_eq (by omega)]; omega
  exact this
 ·clear hP
  exact And.intro (Or.inl rfl) rfl
end Ab
