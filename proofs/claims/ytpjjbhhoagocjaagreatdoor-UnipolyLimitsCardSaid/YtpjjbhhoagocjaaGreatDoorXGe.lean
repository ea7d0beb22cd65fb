import Derived.Test.YtpjjbhhoagocjaaGreatDoorXGv
section
open Go Go.Proofs
namespace Ab
set_option maxRecDepth 100000
set_option maxHeartbeats 1000000
abbrev mkQ (nn : Bool) (nl : List Int) (dn : Bool) (dl : List Int) : AV:=.agg [.bool nn,lim nl,.bool dn,lim dl]
abbrev mkR (n d : Int) : AV:=mkQ (decide (n < 0)) (Dg.mag (az n)) (decide (d < 0)) (Dg.mag (az d))
theorem zero_ans (l : List Int) : ((((irows .u32 l).length : Int)) == 0) = decide (l = []):=by
 rw [irows_len]
 cases l with
 | nil => rfl
 | cons x l =>
  rw [decide_eq_false (by simp)]
  simp only [List.length_cons,beq_eq_false_iff_ne]
  omega
theorem qzero_spec (gl : List (Nat × AV)) (neg : Bool) (l : List Int) : Spec Tryz.prog gl 62 [mkI neg l] (.bool (decide (l = []))):=by
 refine spec_fn T_ok mixed_ok 0 Tryz.func62 fn_ok62 (by kernel_rfl) ?_
 exact And.intro (Or.inr rfl) (congrArg AV.bool (zero_ans l))
theorem one_ans (x : Int) : (x == 1) = decide ([x] = [1]):=by
 by_cases h : x = 1
 ·subst h; rfl
 ·rw [decide_eq_false (by simpa using h)]
  simpa using h
theorem qone_spec (gl : List (Nat × AV)) (neg : Bool) (l : List Int) : Spec Tryz.prog gl 113 [mkI neg l] (.bool (bif neg then false else decide (l = [1]))):=by
 cases neg with
 | true =>
  refine spec_fn T_ok mixed_ok 0 Tryz.func113 fn_ok113 (by kernel_rfl) ?_
  repeat (first | refine gT ?_ | refine gF ?_ | refine brT ?_ | refine brF ?_)
  exact And.intro (Or.inr rfl) rfl
 | false =>
  match l with
  | [] =>
   refine spec_fn T_ok mixed_ok 0 Tryz.func113 fn_ok113 (by kernel_rfl) ?_
   repeat (first | refine gT ?_ | refine gF ?_ | refine brT ?_ | refine brF ?_)
   exact And.intro (Or.inr rfl) rfl
  | [x] =>
   refine spec_fn T_ok mixed_ok 0 Tryz.func113 fn_ok113 (by kernel_rfl) ?_
   repeat (first | refine gT ?_ | refine gF ?_ | refine brT ?_ | refine brF ?_)
   refine And.intro (by decide) (Exists.intro _ (And.intro rfl ?_))
   repeat (first | refine gT ?_ | refine gF ?_ | refine brT ?_ | refine brF ?_)
   exact And.intro (Or.inr rfl) (congrArg AV.bool (one_ans x))
  | x :: y :: l =>
   have e : decide (x :: y :: l = [1]) = false:=decide_eq_false (by simp)
   rw [e]
   refine spec_fn T_ok mixed_ok 0 Tryz.func113 fn_ok113 (by kernel_rfl) ?_
   repeat (first | refine gT ?_ | refine gF ?_ | refine brT ?_ | refine brF ?_)
   exact And.intro (Or.inr rfl) rfl
theorem ratvalid_walk (gl : List (Nat × AV)) {nn : Bool} {nl dl g : List Int} {b : Bool} (s1 : Spec Tryz.prog gl 70 [mkI nn nl] (.bool true)) (s2 : Spec Tryz.prog gl 70 [mkI false dl] (.bool true)) (s3 : Spec Tryz.prog gl 62 [mkI false dl] (.bool false))
  (s4 : Spec Tryz.prog gl 113 [mkI false dl] (.bool b)) (s5 : Spec Tryz.prog gl 114 [mkI nn nl,mkI false dl] (.tup [mkI false g,.int .i64 0])) (s6 : Spec Tryz.prog gl 113 [mkI false g] (.bool true)) :
  Spec Tryz.prog gl 61 [mkQ nn nl false dl] (.bool true):=by
 cases b with
 | true =>
  refine spec_fn T_ok mixed_ok 1 Tryz.func61 fn_ok61 (by kernel_rfl) ?_
  first | refine Exists.intro _ (And.intro (s1) ?_) | refine Hn_by (Exists.intro _ (And.intro (s1) ?_))
  repeat (first | refine gT ?_ | refine gF ?_ | refine brT ?_ | refine brF ?_)
  first | refine Exists.intro _ (And.intro (s2) ?_) | refine Hn_by (Exists.intro _ (And.intro (s2) ?_))
  repeat (first | refine gT ?_ | refine gF ?_ | refine brT ?_ | refine brF ?_)
  first | refine Exists.intro _ (And.intro (s3) ?_) | refine Hn_by (Exists.intro _ (And.intro (s3) ?_))
  repeat (first | refine gT ?_ | refine gF ?_ | refine brT ?_ | refine brF ?_)
  first | refine Exists.intro _ (And.intro (s4) ?_) | refine Hn_by (Exists.intro _ (And.intro (s4) ?_))
  repeat (first | refine gT ?_ | refine gF ?_ | refine brT ?_ | refine brF ?_)
  exact And.intro (Or.inr rfl) rfl
 | false =>
  refine spec_fn T_ok mixed_ok 1 Tryz.func61 fn_ok61 (by kernel_rfl) ?_
  first | refine Exists.intro _ (And.intro (s1) ?_) | refine Hn_by (Exists.intro _ (And.intro (s1) ?_))
  repeat (first | refine gT ?_ | refine gF ?_ | refine brT ?_ | refine brF ?_)
  first | refine Exists.intro _ (And.intro (s2) ?_) | refine Hn_by (Exists.intro _ (And.intro (s2) ?_))
  repeat (first | refine gT ?_ | refine gF ?_ | refine brT ?_ | refine brF ?_)
  first | refine Exists.intro _ (And.intro (s3) ?_) | refine Hn_by (Exists.intro _ (And.intro (s3) ?_))
  repeat (first | refine gT ?_ | refine gF ?_ | refine brT ?_ | refine brF ?_)
  first | refine Exists.intro _ (And.intro (s4) ?_) | refine Hn_by (Exists.intro _ (And.intro (s4) ?_))
  repeat (first | refine gT ?_ | refine gF ?_ | refine brT ?_ | refine brF ?_)
  first | refine Exists.intro _ (And.intro (s5) ?_) | refine Hn_by (Exists.intro _ (And.intro (s5) ?_))
  repeat (first | refine gT ?_ | refine gF ?_ | refine brT ?_ | refine brF ?_)
  first | refine Exists.intro _ (And.intro (s6) ?_) | refine Hn_by (Exists.intro _ (And.intro (s6) ?_))
  repeat (first | refine gT ?_ | refine gF ?_ | refine brT ?_ | refine brF ?_)
  exact And.intro (Or.inr rfl) rfl
theorem reduceq_walk (gl : List (Nat × AV)) {nn n2 : Bool} {nl dl g nl2 dl2 m1 m2 : List Int} {b b1 b2 : Bool} (s5 : Spec Tryz.prog gl 114 [mkI nn nl,mkI false dl] (.tup [mkI false g,.int .i64 0])) (s6 : Spec Tryz.prog gl 113 [mkI false g] (.bool b))
  (h1 : b = true -> n2 = nn∧nl2 = nl∧dl2 = dl) (h2 : b = false -> Spec Tryz.prog gl 121 [mkI nn nl,mkI false g] (.tup [mkI n2 nl2,mkI b1 m1,.int .i64 0])∧Spec Tryz.prog gl 121 [mkI false dl,mkI false g] (.tup [mkI false dl2,mkI b2 m2,.int .i64 0])) :
  Spec Tryz.prog gl 71 [mkI nn nl,mkI false dl] (mkQ n2 nl2 false dl2):=by
 cases b with
 | true =>
  obtain ⟨rfl,rfl,rfl⟩:=h1 rfl
  refine spec_fn T_ok mixed_ok 1 Tryz.func71 fn_ok71 (by kernel_rfl) ?_
  repeat (first | refine gT ?_ | refine gF ?_ | refine brT ?_ | refine brF ?_)
  first | refine Exists.intro _ (And.intro (s5) ?_) | refine Hn_by (Exists.intro _ (And.intro (s5) ?_))
  repeat (first | refine gT ?_ | refine gF ?_ | refine brT ?_ | refine brF ?_)
  first | refine Exists.intro _ (And.intro (s6) ?_) | refine Hn_by (Exists.intro _ (And.intro (s6) ?_))
  repeat (first | refine gT ?_ | refine gF ?_ | refine brT ?_ | refine brF ?_)
  exact And.intro (Or.inr rfl) rfl
 | false =>
  obtain ⟨d1,d2⟩:=h2 rfl
  refine spec_fn T_ok mixed_ok 1 Tryz.func71 fn_ok71 (by kernel_rfl) ?_
  repeat (first | refine gT ?_ | refine gF ?_ | refine brT ?_ | refine brF ?_)
  first | refine Exists.intro _ (And.intro (s5) ?_) | refine Hn_by (Exists.intro _ (And.intro (s5) ?_))
  repeat (first | refine gT ?_ | refine gF ?_ | refine brT ?_ | refine brF ?_)
  first | refine Exists.intro _ (And.intro (s6) ?_) | refine Hn_by (Exists.intro _ (And.intro (s6) ?_))
  repeat (first | refine gT ?_ | refine gF ?_ | refine brT ?_ | refine brF ?_)
  first | refine Exists.intro _ (And.intro (d1) ?_) | refine Hn_by (Exists.intro _ (And.intro (d1) ?_))
  repeat (first | refine gT ?_ | refine gF ?_ | refine brT ?_ | refine brF ?_)
  first | refine Exists.intro _ (And.intro (d2) ?_) | refine Hn_by (Exists.intro _ (And.intro (d2) ?_))
  repeat (first | refine gT ?_ | refine gF ?_ | refine brT ?_ | refine brF ?_)
  exact And.intro (Or.inr rfl) rfl
theorem fresh_spec (gl : List (Nat × AV)) (neg : Bool) (l : List Int) (hl : l.length <= 1073741824) : Spec Tryz.prog gl 72 [mkI neg l] (mkI neg l):=by
 refine spec_fn T_ok mixed_ok 0 Tryz.func72 fn_ok72 (by kernel_rfl) ?_
 refine And.intro (by kernel_rfl) ?_
 repeat (first | refine gT ?_ | refine gF ?_ | refine brT ?_ | refine brF ?_ | refine And.intro rfl ?_)
 refine And.intro (show (irows .u32 l).length * 4 <= 140737488355328 by rw [irows_len]; omega) ?_
 refine And.intro (show (irows .u32 l).length <= maxLen by rw [irows_len]; simp only [maxLen]; omega) ?_
 refine And.intro (irows_ok _ _) ?_
 repeat (first | refine gT ?_ | refine gF ?_ | refine brT ?_ | refine brF ?_ | refine And.intro rfl ?_)
 exact And.intro (Or.inr rfl) rfl
theorem make_walk (gl : List (Nat × AV)) {nn n2 d2 : Bool} {nl dl nl2 dl2 : List Int} (v1 : Spec Tryz.prog gl 70 [mkI nn nl] (.bool true)) (v2 : Spec Tryz.prog gl 70 [mkI false dl] (.bool true)) (z : Spec Tryz.prog gl 62 [mkI false dl] (.bool false))
  (rd : Spec Tryz.prog gl 71 [mkI nn nl,mkI false dl] (mkQ n2 nl2 d2 dl2)) (f1 : Spec Tryz.prog gl 72 [mkI n2 nl2] (mkI n2 nl2)) (f2 : Spec Tryz.prog gl 72 [mkI d2 dl2] (mkI d2 dl2)) :
  Spec Tryz.prog gl 31 [mkI nn nl,mkI false dl] (.tup [mkQ n2 nl2 d2 dl2,.int .i64 0]):=by
 refine spec_fn T_ok mixed_ok 1 Tryz.func31 fn_ok31 (by kernel_rfl) ?_
 first | refine Exists.intro _ (And.intro (v1) ?_) | refine Hn_by (Exists.intro _ (And.intro (v1) ?_))
 repeat (first | refine gT ?_ | refine gF ?_ | refine brT ?_ | refine brF ?_)
 first | refine Exists.intro _ (And.intro (v2) ?_) | refine Hn_by (Exists.intro _ (And.intro (v2) ?_))
 repeat (first | refine gT ?_ | refine gF ?_ | refine brT ?_ | refine brF ?_)
 first | refine Exists.intro _ (And.intro (z) ?_) | refine Hn_by (Exists.intro _ (And.intro (z) ?_))
 repeat (first | refine gT ?_ | refine gF ?_ | refine brT ?_ | refine brF ?_)
 first | refine Exists.intro _ (And.intro (rd) ?_) | refine Hn_by (Exists.intro _ (And.intro (rd) ?_))
 refine And.intro (by kernel_rfl) ?_
 repeat (first | refine gT ?_ | refine gF ?_ | refine brT ?_ | refine brF ?_ | refine And.intro rfl ?_)
 first | refine Exists.intro _ (And.intro (f1) ?_) | refine Hn_by (Exists.intro _ (And.intro (f1) ?_))
 repeat (first | refine gT ?_ | refine gF ?_ | refine brT ?_ | refine brF ?_ | refine And.intro rfl ?_)
 first | refine Exists.intro _ (And.intro (f2) ?_) | refine Hn_by (Exists.intro _ (And.intro (f2) ?_))
 repeat (first | refine gT ?_ | refine gF ?_ | refine brT ?_ | refine brF ?_ | refine And.intro rfl ?_)
 exact And.intro (Or.inr rfl) rfl
theorem of_walk (gl : List (Nat × AV)) {n d : Int} {nn n2 d2 : Bool} {nl dl nl2 dl2 : List Int} (o1 : Spec Tryz.prog gl 27 [.int .i64 n] (mkI nn nl)) (o2 : Spec Tryz.prog gl 27 [.int .i64 d] (mkI false dl)) (m : Spec Tryz.prog gl 31 [mkI nn nl,mkI false dl] (.tup [mkQ n2 nl2 d2 dl2,.int .i64 0])) :
  Spec Tryz.prog gl 41 [.int .i64 n,.int .i64 d] (.tup [mkQ n2 nl2 d2 dl2,.int .i64 0]):=by
 refine spec_fn T_ok mixed_ok 1 Tryz.func41 fn_ok41 (by kernel_rfl) ?_
 first | refine Exists.intro _ (And.intro (o1) ?_) | refine Hn_by (Exists.intro _ (And.intro (o1) ?_))
 first | refine Exists.intro _ (And.intro (o2) ?_) | refine Hn_by (Exists.intro _ (And.intro (o2) ?_))
 first | refine Exists.intro _ (And.intro (m) ?_) | refine Hn_by (Exists.intro _ (And.intro (m) ?_))
 exact And.intro (Or.inr rfl) rfl
theorem mag_one : Dg.mag 1 = [1]:=by
 have h : Dg.D [1]:=Dg.D.cons.2 ⟨by decide,Dg.D.nil⟩
 have:=Dg.mag_of h (fun x hx => by
  have : x = 1:=by simpa using hx.symm
  omega)
 rw [this]
 congr 1
theorem mag_is_one {g : Int} (h : 0 <= g) : Dg.mag g = [1] ↔ g = 1:=by
 constructor
 ·intro e
  have:=Dg.magV h
  rw [e] at this
  simpa [Dg.val] using this.symm
 ·intro e; rw [e,mag_one]
theorem gcd_pos {n d : Int} (h : 0 < d) : 0 < (Int.gcd n d : Int):=by
 have:=Int.gcd_pos_of_ne_zero_right n (show d ≠ 0 by omega)
 omega
theorem gcd_le {n d : Int} (h : 0 < d) : (Int.gcd n d : Int) <= d:=Int.le_of_dvd h (Int.gcd_dvd_right n d)
theorem fits_gcd {n d : Int} (h : 0 < d) (hd : Fits d) : Fits (Int.gcd n d : Int):=fits_le (by
 have:=gcd_le (n:=n) h
 have:=gcd_pos (n:=n) h
 unfold az; omega) hd
theorem az_pos {d : Int} (h : 0 < d) : az d = d:=fits_nn (by omega)
theorem mkR_pos {n d : Int} (h : 0 < d) : mkR n d = mkQ (decide (n < 0)) (Dg.mag (az n)) false (Dg.mag d):=by
 unfold mkR
 rw [az_pos h,decide_eq_false (show ¬ d < 0 by omega)]
theorem ratvalid_int (gl : List (Nat × AV)) {n d : Int} (hn : Fits n) (hd : Fits d) (h : 0 < d) (hg : Int.gcd n d = 1) : Spec Tryz.prog gl 61 [mkR n d] (.bool true):=by
 have s1:=valid_int gl hn
 have s2:=valid_int gl hd
 have s5:=gcd_int gl hn hd
 rw [hg,mkZ_nn (Int.natCast_nonneg 1),show ((1 : Nat) : Int) = 1 from rfl,mag_one] at s5
 rw [mkZ_nn (a:=d) (by omega)] at s2 s5
 have s3:=qzero_spec gl false (Dg.mag d)
 rw [decide_eq_false (fun e => by have:=(mag_nil (n:=d) (by omega)).1 e; omega)] at s3
 rw [mkR_pos h]
 exact ratvalid_walk gl s1 s2 s3 (qone_spec gl false _) s5 (qone_spec gl false [1])
theorem reduceq_int (gl : List (Nat × AV)) {n d : Int} (hn : Fits n) (hd : Fits d) (h : 0 < d) : Spec Tryz.prog gl 71 [mkZ n,mkZ d] (mkR (n / Int.gcd n d) (d / Int.gcd n d)):=by
 have s5:=gcd_int gl hn hd
 have g0:=gcd_pos (n:=n) h
 have g1:=gcd_le (n:=n) h
 have fg:=fits_gcd (n:=n) h hd
 have dv:=Int.gcd_dvd_right n d
 generalize (Int.gcd n d : Int) = g at *
 have d1:=divmod_int gl hn fg g0
 have d2:=divmod_int gl hd fg g0
 have q0 : 0 < d / g:=Int.ediv_pos_of_pos_of_dvd h (by omega) dv
 rw [mkZ_nn (a:=g) (by omega)] at s5 d1 d2
 rw [mkZ_nn (a:=d) (by omega)] at s5 d2 ⊢
 rw [mkZ_nn (a:=d / g) (by omega)] at d2
 rw [mkR_pos q0]
 refine reduceq_walk gl s5 (qone_spec gl false _) (fun e => ?_) (fun _ => ⟨d1,d2⟩)
 have e' : g = 1:=(mag_is_one (by omega)).1 (of_decide_eq_true e)
 rw [e',Int.ediv_one,Int.ediv_one]
 exact ⟨rfl,rfl,rfl⟩
theorem fits_i64 {n : Int} (h0 : -9223372036854775808 <= n) (h1 : n <= 9223372036854775807) : Fits n:=fits_lt (by
 have:=two_pow_B (n:=64) (k:=128) (by decide)
 have e : (2 : Int) ^ 64 = 18446744073709551616:=by decide
 rw [e] at this
 unfold az; omega)
theorem quo_fits {n g : Int} (h : 0 < g) (hn : Fits n) : Fits (n / g):=fits_le (quo_abs h) hn
theorem ratof_int (gl : List (Nat × AV)) {n d : Int} (h0 : -9223372036854775808 <= n) (h1 : n <= 9223372036854775807) (h2 : 0 < d) (h3 : d <= 9223372036854775807) : Spec Tryz.prog gl 41 [.int .i64 n,.int .i64 d] (.tup [mkR (n / Int.gcd n d) (d / Int.gcd n d),.int .i64 0]):=by
 have hn:=fits_i64 h0 h1
 have hd:=fits_i64 (n:=d) (by omega) h3
 have o1:=Of_spec gl n h0 h1
 have o2:=Of_spec gl d (by omega) h3
 have v1:=valid_int gl hn
 have v2:=valid_int gl hd
 have rd:=reduceq_int gl hn hd h2
 have g0:=gcd_pos (n:=n) h2
 have dv:=Int.gcd_dvd_right n d
 generalize (Int.gcd n d : Int) = g at *
 have q0 : 0 < d / g:=Int.ediv_pos_of_pos_of_dvd h2 (by omega) dv
 have f1:=fresh_spec gl (decide (n / g < 0)) (Dg.mag (az (n / g))) (Nat.le_trans (quo_fits g0 hn) (by decide))
 have f2:=fresh_spec gl (decide (d / g < 0)) (Dg.mag (az (d / g))) (Nat.le_trans (quo_fits g0 hd) (by decide))
 have s3:=qzero_spec gl false (Dg.mag d)
 rw [decide_eq_false (fun e => by have:=(mag_nil (n:=d) (by omega)).1 e; omega)] at s3
 rw [mkZ_nn (a:=d) (by omega)] at o2 v2 rd
 exact of_walk gl o1 o2 (make_walk gl v1 v2 s3 rd f1 f2)
end Ab
end
section
open Go Go.Proofs
namespace Ab
set_option maxRecDepth 100000
set_option maxHeartbeats 1000000
theorem put_known {hp : Nat -> Option Blk} {a b : Nat} {x y : Blk} (ha : hp a = some x) (hb : hp b = some y) : ∃ h0,hp = upd a (some x) (upd b (some y) h0):=⟨hp,by rw [upd_id hb,upd_id ha]⟩
def Old (n : Nat) (h h' : Nat -> Option Blk) : Prop:=∀ k,k < n -> h' k = h k
theorem Old.refl {n : Nat} {h : Nat -> Option Blk} : Old n h h:=fun _ _ => rfl
theorem Old.new {n j : Nat} {b : Option Blk} {h h' : Nat -> Option Blk} (hj : Nat.ble n j = true) (o : Old n h h') : Old n h (upd j b h'):=fun k hk => by
 rw [upd_ne (by have:=Nat.le_of_ble_eq_true hj; omega)]; exact o k hk
theorem Old.same {n j : Nat} {b : Option Blk} {h h' : Nat -> Option Blk} (hj : h' j = b) (o : Old n h h') : Old n h (upd j b h'):=fun k hk => by
 rw [upd_id hj]; exact o k hk
theorem clean_of {n : Nat} {h : Nat -> Option Blk} : ∀ {m : Nat},(∀ k,k < m -> blB n (h k) = true) -> clean n h m
 | 0,_ => trivial
 | m + 1,g => ⟨g m (by omega),clean_of fun k hk => g k (by omega)⟩
theorem Old.fin {n : Nat} {h h' : Nat -> Option Blk} (cl : ∀ k,k < n -> blB n (h k) = true) (o : Old n h h') : clean n h' n∧∀ k,k < n -> (h k = none ∨ h k = h' k) :=
 ⟨clean_of fun k hk => by rw [o k hk]; exact cl k hk,fun k hk => .inr (o k hk).symm⟩
theorem cut_K {n : Nat} {h h' : Nat -> Option Blk} {r : AV} {tm : Nat -> AV} {K : AV -> St -> Prop} (cl : ∀ k,k < n -> blB n (h k) = true) (hK : K r ⟨tm,cutH n h,n⟩) (o : Old n h h') : clean n h' n∧K r ⟨tm,cutH n h',n⟩:=by
 refine ⟨(Old.fin cl o).1,?_⟩
 have e : cutH n h' = cutH n h:=by
  funext k
  unfold cutH
  cases hb : Nat.blt k n with
  | false => rfl
  | true => exact o k (blt_iff.1 hb)
 rw [e]
 exact hK
theorem cut_same {n : Nat} {hp : Nat -> Option Blk} (dm : ∀ k,n <= k -> hp k = none) : cutH n hp = hp:=by
 funext k
 unfold cutH
 cases hb : Nat.blt k n with
 | true => rfl
 | false =>
  refine (dm k (Nat.le_of_not_lt fun h => ?_)).symm
  rw [blt_iff.2 h] at hb
  cases hb
theorem clo12_okc (gl : List (Nat × AV)) {F : FuncId} {xn yn zn : Bool} {xl yl zl : List Int} (hF : Spec Tryz.prog gl F [mkI xn xl,mkI yn yl] (.tup [mkI zn zl,.int .i64 0])) {tm : Nat -> AV} {hp : Nat -> Option Blk} {K : AV -> St -> Prop} (n : Nat) (he : hp 7 = some (.box [.int .i64 0])) (hc : hp 8 = some (.box [.fn F []]))
  (cl : ∀ k,k < 12 -> blB 12 (hp k) = true) (hK : K (mkI zn zl) ⟨tm,cutH 12 hp,12⟩) : Hn Tryz.prog T gl (n + 1) (.fn 110) [mkI xn xl,mkI yn yl,.bp 7 0,.bp 8 0] ⟨tm,hp,12⟩ K:=by
 obtain ⟨h0,rfl⟩:=put_known he hc
 refine Hn_cut Tryz.f110 Tryz.func110 fn_ok110 (by kernel_rfl) ?_
 refine brF ?_
 refine Hn_by (Exists.intro _ (And.intro hF ?_))
 refine And.intro (Or.inr rfl) (And.intro rfl (cut_K cl hK ?_))
 repeat (first | exact Old.refl | refine Old.new rfl ?_ | refine Old.same rfl ?_)
theorem clo12_ok (gl : List (Nat × AV)) {F : FuncId} {xn yn zn : Bool} {xl yl zl : List Int} (hF : Spec Tryz.prog gl F [mkI xn xl,mkI yn yl] (.tup [mkI zn zl,.int .i64 0])) {tm : Nat -> AV} {hp : Nat -> Option Blk} {K : AV -> St -> Prop} (n : Nat) (he : hp 7 = some (.box [.int .i64 0])) (hc : hp 8 = some (.box [.fn F []]))
  (cl : ∀ k,k < 12 -> blB 12 (hp k) = true) (dm : ∀ k,12 <= k -> hp k = none) (hK : K (mkI zn zl) ⟨tm,hp,12⟩) : Hn Tryz.prog T gl (n + 1) (.fn 110) [mkI xn xl,mkI yn yl,.bp 7 0,.bp 8 0] ⟨tm,hp,12⟩ K :=
 clo12_okc gl hF n he hc cl (by rw [cut_same dm]; exact hK)
theorem clo148_okc (gl : List (Nat × AV)) {F : FuncId} {xn yn zn : Bool} {xl yl zl : List Int} (hF : Spec Tryz.prog gl F [mkI xn xl,mkI yn yl] (.tup [mkI zn zl,.int .i64 0])) {tm : Nat -> AV} {hp : Nat -> Option Blk} {K : AV -> St -> Prop} (n : Nat) (he : hp 7 = some (.box [.int .i64 0])) (hc : hp 8 = some (.box [.fn F []]))
  (cl : ∀ k,k < 14 -> blB 14 (hp k) = true) (hK : K (mkI zn zl) ⟨tm,cutH 14 hp,14⟩) : Hn Tryz.prog T gl (n + 1) (.fn 110) [mkI xn xl,mkI yn yl,.bp 7 0,.bp 8 0] ⟨tm,hp,14⟩ K:=by
 obtain ⟨h0,rfl⟩:=put_known he hc
 refine Hn_cut Tryz.f110 Tryz.func110 fn_ok110 (by kernel_rfl) ?_
 refine brF ?_
 refine Hn_by (Exists.intro _ (And.intro hF ?_))
 refine And.intro (Or.inr rfl) (And.intro rfl (cut_K cl hK ?_))
 repeat (first | exact Old.refl | refine Old.new rfl ?_ | refine Old.same rfl ?_)
theorem clo148_ok (gl : List (Nat × AV)) {F : FuncId} {xn yn zn : Bool} {xl yl zl : List Int} (hF : Spec Tryz.prog gl F [mkI xn xl,mkI yn yl] (.tup [mkI zn zl,.int .i64 0])) {tm : Nat -> AV} {hp : Nat -> Option Blk} {K : AV -> St -> Prop} (n : Nat) (he : hp 7 = some (.box [.int .i64 0])) (hc : hp 8 = some (.box [.fn F []]))
  (cl : ∀ k,k < 14 -> blB 14 (hp k) = true) (dm : ∀ k,14 <= k -> hp k = none) (hK : K (mkI zn zl) ⟨tm,hp,14⟩) : Hn Tryz.prog T gl (n + 1) (.fn 110) [mkI xn xl,mkI yn yl,.bp 7 0,.bp 8 0] ⟨tm,hp,14⟩ K :=
 clo148_okc gl hF n he hc cl (by rw [cut_same dm]; exact hK)
theorem clo149_okc (gl : List (Nat × AV)) {F : FuncId} {xn yn zn : Bool} {xl yl zl : List Int} (hF : Spec Tryz.prog gl F [mkI xn xl,mkI yn yl] (.tup [mkI zn zl,.int .i64 0])) {tm : Nat -> AV} {hp : Nat -> Option Blk} {K : AV -> St -> Prop} (n : Nat) (he : hp 7 = some (.box [.int .i64 0])) (hc : hp 9 = some (.box [.fn F []]))
  (cl : ∀ k,k < 14 -> blB 14 (hp k) = true) (hK : K (mkI zn zl) ⟨tm,cutH 14 hp,14⟩) : Hn Tryz.prog T gl (n + 1) (.fn 110) [mkI xn xl,mkI yn yl,.bp 7 0,.bp 9 0] ⟨tm,hp,14⟩ K:=by
 obtain ⟨h0,rfl⟩:=put_known he hc
 refine Hn_cut Tryz.f110 Tryz.func110 fn_ok110 (by kernel_rfl) ?_
 refine brF ?_
 refine Hn_by (Exists.intro _ (And.intro hF ?_))
 refine And.intro (Or.inr rfl) (And.intro rfl (cut_K cl hK ?_))
 repeat (first | exact Old.refl | refine Old.new rfl ?_ | refine Old.same rfl ?_)
theorem all_spec (gl : List (Nat × AV)) {an ad bn bd : Bool} {al am bl bm : List Int} (s1 : Spec Tryz.prog gl 61 [mkQ an al ad am] (.bool true)) (s2 : Spec Tryz.prog gl 61 [mkQ bn bl bd bm] (.bool true)) :
  Spec Tryz.prog gl 108 [.sl [[.bool an,lim al,.bool ad,lim am],[.bool bn,lim bl,.bool bd,lim bm]]] (.bool true):=by
 refine spec_fn T_ok mixed_ok 1 Tryz.func108 fn_ok108 (by kernel_rfl) ?_
 refine aw_loop (fun i : Nat => stOf [(5,.sl [[.bool an,lim al,.bool ad,lim am],[.bool bn,lim bl,.bool bd,lim bm]]),(6,.int .i64 2),(7,.int .i64 (i : Int))] [] i) (fun i => i <= 2) (fun i => 2 - i) 0 (Nat.zero_le _)
  (le_by ⟨rfl,rfl,rfl,trivial⟩ trivial (Nat.le_refl _)) ?_
 intro i hi P hP
 obtain rfl | rfl | rfl : i = 0 ∨ i = 1 ∨ i = 2:=by omega
 ·repeat (first | refine gT ?_ | refine gF ?_ | refine brT ?_ | refine brF ?_)
  refine And.intro (by decide) (Exists.intro _ (And.intro rfl ?_))
  repeat (first | refine gT ?_ | refine gF ?_ | refine brT ?_ | refine brF ?_)
  first | refine Exists.intro _ (And.intro (s1) ?_) | refine Hn_by (Exists.intro _ (And.intro (s1) ?_))
  repeat (first | refine gT ?_ | refine gF ?_ | refine brT ?_ | refine brF ?_)
  exact hP 1 _ (le_by ⟨rfl,rfl,rfl,trivial⟩ trivial (Nat.le_refl _)) (by decide) (by decide)
 ·repeat (first | refine gT ?_ | refine gF ?_ | refine brT ?_ | refine brF ?_)
  refine And.intro (by decide) (Exists.intro _ (And.intro rfl ?_))
  repeat (first | refine gT ?_ | refine gF ?_ | refine brT ?_ | refine brF ?_)
  first | refine Exists.intro _ (And.intro (s2) ?_) | refine Hn_by (Exists.intro _ (And.intro (s2) ?_))
  repeat (first | refine gT ?_ | refine gF ?_ | refine brT ?_ | refine brF ?_)
  exact hP 2 _ (le_by ⟨rfl,rfl,rfl,trivial⟩ trivial (Nat.le_refl _)) (by decide) (by decide)
 ·clear hP
  repeat (first | refine gT ?_ | refine gF ?_ | refine brT ?_ | refine brF ?_)
  exact And.intro (Or.inr rfl) rfl
section
variable (gl : List (Nat × AV)) {an ad bn bd xn yn wn sn zn zd : Bool} {al am bl bm xl yl wl sl zl zm : List Int} (s : Spec Tryz.prog gl 108 [.sl [[.bool an,lim al,.bool ad,lim am],[.bool bn,lim bl,.bool bd,lim bm]]] (.bool true))
include s
theorem ratmul_walk (m1 : Spec Tryz.prog gl 28 [mkI an al,mkI bn bl] (.tup [mkI xn xl,.int .i64 0])) (m2 : Spec Tryz.prog gl 28 [mkI ad am,mkI bd bm] (.tup [mkI yn yl,.int .i64 0])) (rd : Spec Tryz.prog gl 71 [mkI xn xl,mkI yn yl] (mkQ zn zl zd zm)) :
  Spec Tryz.prog gl 24 [mkQ an al ad am,mkQ bn bl bd bm] (.tup [mkQ zn zl zd zm,.int .i64 0]):=by
 refine spec_fn T_ok mixed_ok 5 Tryz.func24 fn_ok24 (by kernel_rfl) ?_
 refine Hn_in Tryz.f56 Tryz.func56 fn_ok56 (by kernel_rfl) ?_
 refine Hn_by (And.intro (Nat.le_refl 2) (Exists.intro _ (And.intro s ?_)))
 refine brF ?_
 refine Hn_in Tryz.f109 Tryz.func109 fn_ok109 (by kernel_rfl) ?_
 refine And.intro (Or.inr rfl) ?_
 refine Hn_in Tryz.f109 Tryz.func109 fn_ok109 (by kernel_rfl) ?_
 refine And.intro (Or.inr rfl) ?_
 refine Hn_in Tryz.f57 Tryz.func57 fn_ok57 (by kernel_rfl) ?_
 refine clo12_okc gl m1 _ (by kernel_rfl) (by kernel_rfl) (clean_at (cleanB_ok (by kernel_rfl))) ?_
 refine And.intro (by kernel_rfl) ?_
 refine And.intro (by kernel_rfl) ?_
 refine And.intro (clean_at (cleanB_ok (by kernel_rfl))) ?_
 refine Exists.intro (mkI yn yl) (Exists.intro (none) (And.intro (by kernel_rfl) (And.intro ?_ (fun tm hp ag cl dm K' hK => clo12_ok gl m2 _ ((ag 7 (by kernel_rfl)).trans (by kernel_rfl)) ((ag 8 (by kernel_rfl)).trans (by kernel_rfl)) cl dm hK))))
 refine And.intro (Or.inr rfl) ?_
 refine brF ?_
 refine Hn_by (Exists.intro _ (And.intro rd ?_))
 refine And.intro (Or.inr rfl) ?_
 exact And.intro (Or.inr rfl) rfl
theorem ratadd_walk (m1 : Spec Tryz.prog gl 28 [mkI an al,mkI bd bm] (.tup [mkI xn xl,.int .i64 0])) (m2 : Spec Tryz.prog gl 28 [mkI bn bl,mkI ad am] (.tup [mkI yn yl,.int .i64 0])) (a1 : Spec Tryz.prog gl 29 [mkI xn xl,mkI yn yl] (.tup [mkI sn sl,.int .i64 0])) (m3 : Spec Tryz.prog gl 28 [mkI ad am,mkI bd bm] (.tup [mkI wn wl,.int .i64 0])) (rd : Spec Tryz.prog gl 71 [mkI sn sl,mkI wn wl] (mkQ zn zl zd zm)) :
  Spec Tryz.prog gl 42 [mkQ an al ad am,mkQ bn bl bd bm] (.tup [mkQ zn zl zd zm,.int .i64 0]):=by
 refine spec_fn T_ok mixed_ok 5 Tryz.func42 fn_ok42 (by kernel_rfl) ?_
 refine Hn_in Tryz.f56 Tryz.func56 fn_ok56 (by kernel_rfl) ?_
 refine Hn_by (And.intro (Nat.le_refl 2) (Exists.intro _ (And.intro s ?_)))
 refine brF ?_
 refine Hn_in Tryz.f109 Tryz.func109 fn_ok109 (by kernel_rfl) ?_
 refine And.intro (Or.inr rfl) ?_
 refine Hn_in Tryz.f109 Tryz.func109 fn_ok109 (by kernel_rfl) ?_
 refine And.intro (Or.inr rfl) ?_
 refine Hn_in Tryz.f87 Tryz.func87 fn_ok87 (by kernel_rfl) ?_
 refine And.intro (by kernel_rfl) ?_
 refine And.intro (by kernel_rfl) ?_
 refine And.intro (by kernel_rfl) ?_
 refine And.intro (clean_at (cleanB_ok (by kernel_rfl))) ?_
 refine Exists.intro (mkI xn xl) (Exists.intro (none) (And.intro (by kernel_rfl) (And.intro ?_ (fun tm hp ag cl dm K' hK => clo148_ok gl m1 _ ((ag 7 (by kernel_rfl)).trans (by kernel_rfl)) ((ag 8 (by kernel_rfl)).trans (by kernel_rfl)) cl dm hK))))
 refine And.intro (by kernel_rfl) ?_
 refine And.intro (by kernel_rfl) ?_
 refine And.intro (clean_at (cleanB_ok (by kernel_rfl))) ?_
 refine Exists.intro (mkI yn yl) (Exists.intro (none) (And.intro (by kernel_rfl) (And.intro ?_ (fun tm hp ag cl dm K' hK => clo148_ok gl m2 _ ((ag 7 (by kernel_rfl)).trans (by kernel_rfl)) ((ag 8 (by kernel_rfl)).trans (by kernel_rfl)) cl dm hK))))
 refine clo149_okc gl a1 _ (by kernel_rfl) (by kernel_rfl) (clean_at (cleanB_ok (by kernel_rfl))) ?_
 refine And.intro (by kernel_rfl) ?_
 refine And.intro (by kernel_rfl) ?_
 refine And.intro (clean_at (cleanB_ok (by kernel_rfl))) ?_
 refine Exists.intro (mkI wn wl) (Exists.intro (none) (And.intro (by kernel_rfl) (And.intro ?_ (fun tm hp ag cl dm K' hK => clo148_ok gl m3 _ ((ag 7 (by kernel_rfl)).trans (by kernel_rfl)) ((ag 8 (by kernel_rfl)).trans (by kernel_rfl)) cl dm hK))))
 refine And.intro (Or.inr rfl) ?_
 refine brF ?_
 refine Hn_by (Exists.intro _ (And.intro rd ?_))
 refine And.intro (Or.inr rfl) ?_
 exact And.intro (Or.inr rfl) rfl
end
theorem ratmul_int (gl : List (Nat × AV)) {a b c d : Int} (ha : Fits a) (hb : Fits b) (hc : Fits c) (hd : Fits d) (b0 : 0 < b) (d0 : 0 < d) (g1 : Int.gcd a b = 1) (g2 : Int.gcd c d = 1) (hn : Fits (a * c)) (hm : Fits (b * d)) :
  Spec Tryz.prog gl 24 [mkR a b,mkR c d] (.tup [mkR (a * c / Int.gcd (a * c) (b * d)) (b * d / Int.gcd (a * c) (b * d)),.int .i64 0]):=by
 have m1:=mul_int gl ha hc
 have m2:=mul_int gl hb hd
 rw [resZ_ok hn] at m1
 rw [resZ_ok hm] at m2
 exact ratmul_walk gl (all_spec gl (ratvalid_int gl ha hb b0 g1) (ratvalid_int gl hc hd d0 g2)) m1 m2 (reduceq_int gl hn hm (Int.mul_pos b0 d0))
theorem ratadd_int (gl : List (Nat × AV)) {a b c d : Int} (ha : Fits a) (hb : Fits b) (hc : Fits c) (hd : Fits d) (b0 : 0 < b) (d0 : 0 < d) (g1 : Int.gcd a b = 1) (g2 : Int.gcd c d = 1) (h1 : Fits (a * d)) (h2 : Fits (c * b)) (hn : Fits (a * d + c * b)) (hm : Fits (b * d)) :
  Spec Tryz.prog gl 42 [mkR a b,mkR c d] (.tup [mkR ((a * d + c * b) / Int.gcd (a * d + c * b) (b * d)) (b * d / Int.gcd (a * d + c * b) (b * d)),.int .i64 0]):=by
 have m1:=mul_int gl ha hd
 have m2:=mul_int gl hc hb
 have m3:=mul_int gl hb hd
 have a1:=add_int gl h1 h2
 rw [resZ_ok h1] at m1
 rw [resZ_ok h2] at m2
 rw [resZ_ok hm] at m3
 rw [resZ_ok hn] at a1
 exact ratadd_walk gl (all_spec gl (ratvalid_int gl ha hb b0 g1) (ratvalid_int gl hc hd d0 g2)) m1 m2 a1 m3 (reduceq_int gl hn hm (Int.mul_pos b0 d0))
theorem qneg_walk (gl : List (Nat × AV)) (neg : Bool) (l : List Int) (h : l ≠ []) (hl : l.length <= 1073741824) : Spec Tryz.prog gl 120 [mkI neg l] (mkI (!neg) l):=by
 have h0 : ¬ ((irows .u32 l).length : Int) = 0:=by
  rw [irows_len]
  have:=List.length_pos_iff.2 h
  omega
 refine spec_fn T_ok mixed_ok 0 Tryz.func120 fn_ok120 (by kernel_rfl) ?_
 refine brE (fun g => absurd g h0) (fun _ => ?_)
 refine And.intro (by kernel_rfl) ?_
 repeat (first | refine gT ?_ | refine gF ?_ | refine brT ?_ | refine brF ?_ | refine And.intro rfl ?_)
 refine And.intro (irows_ok _ _) ?_
 refine And.intro (show (0 + (irows .u32 l).length) * 4 <= 140737488355328 by rw [irows_len]; omega) ?_
 refine And.intro (show 0 + (irows .u32 l).length <= maxLen by rw [irows_len]; simp only [maxLen]; omega) ?_
 repeat (first | refine gT ?_ | refine gF ?_ | refine brT ?_ | refine brF ?_ | refine And.intro rfl ?_)
 refine And.intro (Or.inr rfl) ?_
 refine And.intro (by simp) ?_
 refine congrArg (fun x => AV.agg [AV.bool (!neg),AV.sl x]) (?_ : _ = irows .u32 l)
 simp
theorem qneg_zero (gl : List (Nat × AV)) (neg : Bool) : Spec Tryz.prog gl 120 [mkI neg []] (mkI false []):=by
 refine spec_fn T_ok mixed_ok 0 Tryz.func120 fn_ok120 (by kernel_rfl) ?_
 repeat (first | refine gT ?_ | refine gF ?_ | refine brT ?_ | refine brF ?_)
 exact And.intro (Or.inr rfl) rfl
theorem qneg_int (gl : List (Nat × AV)) {z : Int} (hz : Fits z) : Spec Tryz.prog gl 120 [mkZ z] (mkZ (-z)):=by
 have e : az (-z) = az z:=by unfold az; omega
 unfold mkZ
 rw [e]
 by_cases h : z = 0
 ·subst h
  rw [show Dg.mag (az 0) = [] from (mag_nil (az_nn 0)).2 rfl]
  exact qneg_zero gl _
 ·rw [show decide (-z < 0) = !decide (z < 0) by by_cases g : z < 0 <;> simp [g] <;> omega]
  exact qneg_walk gl _ _ (fun g => h (by have:=(mag_nil (az_nn z)).1 g; unfold az at this; omega)) (Nat.le_trans hz (by decide))
theorem reduceq_neg (gl : List (Nat × AV)) {nn n1 n2 : Bool} {nl dl ml g nl2 dl2 m1 m2 : List Int} {b b1 b2 : Bool} (q1 : Spec Tryz.prog gl 120 [mkI nn nl] (mkI n1 ml)) (q2 : Spec Tryz.prog gl 120 [mkI true dl] (mkI false dl)) (s5 : Spec Tryz.prog gl 114 [mkI n1 ml,mkI false dl] (.tup [mkI false g,.int .i64 0])) (s6 : Spec Tryz.prog gl 113 [mkI false g] (.bool b))
  (h1 : b = true -> n2 = n1∧nl2 = ml∧dl2 = dl) (h2 : b = false -> Spec Tryz.prog gl 121 [mkI n1 ml,mkI false g] (.tup [mkI n2 nl2,mkI b1 m1,.int .i64 0])∧Spec Tryz.prog gl 121 [mkI false dl,mkI false g] (.tup [mkI false dl2,mkI b2 m2,.int .i64 0])) :
  Spec Tryz.prog gl 71 [mkI nn nl,mkI true dl] (mkQ n2 nl2 false dl2):=by
 cases b with
 | true =>
  obtain ⟨rfl,rfl,rfl⟩:=h1 rfl
  refine spec_fn T_ok mixed_ok 1 Tryz.func71 fn_ok71 (by kernel_rfl) ?_
  repeat (first | refine gT ?_ | refine gF ?_ | refine brT ?_ | refine brF ?_)
  refine And.intro (by kernel_rfl) ?_
  repeat (first | refine gT ?_ | refine gF ?_ | refine brT ?_ | refine brF ?_ | refine And.intro rfl ?_)
  first | refine Exists.intro _ (And.intro (q1) ?_) | refine Hn_by (Exists.intro _ (And.intro (q1) ?_))
  repeat (first | refine gT ?_ | refine gF ?_ | refine brT ?_ | refine brF ?_ | refine And.intro rfl ?_)
  first | refine Exists.intro _ (And.intro (q2) ?_) | refine Hn_by (Exists.intro _ (And.intro (q2) ?_))
  repeat (first | refine gT ?_ | refine gF ?_ | refine brT ?_ | refine brF ?_ | refine And.intro rfl ?_)
  first | refine Exists.intro _ (And.intro (s5) ?_) | refine Hn_by (Exists.intro _ (And.intro (s5) ?_))
  repeat (first | refine gT ?_ | refine gF ?_ | refine brT ?_ | refine brF ?_)
  first | refine Exists.intro _ (And.intro (s6) ?_) | refine Hn_by (Exists.intro _ (And.intro (s6) ?_))
  repeat (first | refine gT ?_ | refine gF ?_ | refine brT ?_ | refine brF ?_)
  exact And.intro (Or.inr rfl) rfl
 | false =>
  obtain ⟨d1,d2⟩:=h2 rfl
  refine spec_fn T_ok mixed_ok 1 Tryz.func71 fn_ok71 (by kernel_rfl) ?_
  repeat (first | refine gT ?_ | refine gF ?_ | refine brT ?_ | refine brF ?_)
  refine And.intro (by kernel_rfl) ?_
  repeat (first | refine gT ?_ | refine gF ?_ | refine brT ?_ | refine brF ?_ | refine And.intro rfl ?_)
  first | refine Exists.intro _ (And.intro (q1) ?_) | refine Hn_by (Exists.intro _ (And.intro (q1) ?_))
  repeat (first | refine gT ?_ | refine gF ?_ | refine brT ?_ | refine brF ?_ | refine And.intro rfl ?_)
  first | refine Exists.intro _ (And.intro (q2) ?_) | refine Hn_by (Exists.intro _ (And.intro (q2) ?_))
  repeat (first | refine gT ?_ | refine gF ?_ | refine brT ?_ | refine brF ?_ | refine And.intro rfl ?_)
  first | refine Exists.intro _ (And.intro (s5) ?_) | refine Hn_by (Exists.intro _ (And.intro (s5) ?_))
  repeat (first | refine gT ?_ | refine gF ?_ | refine brT ?_ | refine brF ?_)
  first | refine Exists.intro _ (And.intro (s6) ?_) | refine Hn_by (Exists.intro _ (And.intro (s6) ?_))
  repeat (first | refine gT ?_ | refine gF ?_ | refine brT ?_ | refine brF ?_)
  first | refine Exists.intro _ (And.intro (d1) ?_) | refine Hn_by (Exists.intro _ (And.intro (d1) ?_))
  repeat (first | refine gT ?_ | refine gF ?_ | refine brT ?_ | refine brF ?_)
  first | refine Exists.intro _ (And.intro (d2) ?_) | refine Hn_by (Exists.intro _ (And.intro (d2) ?_))
  repeat (first | refine gT ?_ | refine gF ?_ | refine brT ?_ | refine brF ?_)
  exact And.intro (Or.inr rfl) rfl
theorem reduceq_int2 (gl : List (Nat × AV)) {n d : Int} (hn : Fits n) (hd : Fits d) (h : d < 0) : Spec Tryz.prog gl 71 [mkZ n,mkZ d] (mkR (-n / Int.gcd n d) (-d / Int.gcd n d)):=by
 have eg : Int.gcd (-n) (-d) = Int.gcd n d:=by rw [Int.neg_gcd,Int.gcd_neg]
 have az1 : ∀ z : Int,az (-z) = az z:=fun z => by unfold az; omega
 have fn : Fits (-n):=by unfold Fits; rw [az1]; exact hn
 have fd : Fits (-d):=by unfold Fits; rw [az1]; exact hd
 have q1:=qneg_int gl hn
 have q2:=qneg_int gl hd
 have s5:=gcd_int gl fn fd
 rw [eg] at s5
 have g0:=gcd_pos (n:=-n) (d:=-d) (by omega)
 have fg:=fits_gcd (n:=-n) (d:=-d) (by omega) fd
 have dv:=Int.gcd_dvd_right (-n) (-d)
 rw [eg] at g0 fg dv
 generalize (Int.gcd n d : Int) = g at *
 have d1:=divmod_int gl fn fg g0
 have d2:=divmod_int gl fd fg g0
 have q0 : 0 < -d / g:=Int.ediv_pos_of_pos_of_dvd (by omega) (by omega) dv
 have ed : mkZ d = mkI true (Dg.mag (-d)):=by
  unfold mkZ
  rw [decide_eq_true h,show az d = -d by unfold az; omega]
 rw [mkZ_nn (a:=g) (by omega)] at s5 d1 d2
 rw [ed] at q2 ⊢
 rw [mkZ_nn (a:=-d) (by omega)] at q2 s5 d2
 rw [mkZ_nn (a:=-d / g) (by omega)] at d2
 rw [mkR_pos q0]
 refine reduceq_neg gl q1 q2 s5 (qone_spec gl false _) (fun e => ?_) (fun _ => ⟨d1,d2⟩)
 have e' : g = 1:=(mag_is_one (by omega)).1 (of_decide_eq_true e)
 rw [e',Int.ediv_one,Int.ediv_one]
 exact ⟨rfl,rfl,rfl⟩
end Ab
end
