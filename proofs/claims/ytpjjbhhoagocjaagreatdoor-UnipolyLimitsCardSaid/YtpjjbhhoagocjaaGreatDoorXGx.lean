import Derived.Test.YtpjjbhhoagocjaaGreatDoorXGua
import Derived.Test.YtpjjbhhoagocjaaGreatDoorXPoly
section
open Go Go.Proofs
namespace Ab
set_option maxRecDepth 100000
set_option maxHeartbeats 1000000
abbrev z4 : List AV:=[.bool false,.sl [],.bool false,.sl []]
def fillQ (f : Nat -> Rat) (n k : Nat) : List (List AV):=(List.range n).map fun j => if j < k then rv (f j) else z4
theorem fill_zero (f : Nat -> Rat) (n : Nat) : fillQ f n 0 = List.replicate n z4:=by
 unfold fillQ
 apply List.ext_getElem
 ·simp
 ·intro i h1 h2; simp
theorem fill_full (f : Nat -> Rat) (n : Nat) : fillQ f n n = ((List.range n).map f).map rv:=by
 unfold fillQ
 rw [List.map_map]
 apply List.map_congr_left
 intro j hj
 rw [if_pos (List.mem_range.1 hj)]
 rfl
theorem fill_set {f : Nat -> Rat} {n k : Nat} (_h : k < n) : (fillQ f n k).set k (rv (f k)) = fillQ f n (k + 1):=by
 apply List.ext_getElem
 ·simp [fillQ]
 ·intro i h1 h2
  simp only [fillQ,List.getElem_set,List.getElem_map,List.getElem_range]
  by_cases e : k = i
  ·subst e; simp
  ·rw [if_neg e]
   by_cases e2 : i < k
   ·rw [if_pos e2,if_pos (by omega)]
   ·rw [if_neg e2,if_neg (by omega)]
theorem fill_at (f : Nat -> Rat) (n k : Nat) {i : Nat} (h : i < n) : ∃ a b c d,(fillQ f n k)[i]? = some [a,b,c,d]:=by
 unfold fillQ
 rw [List.getElem?_map,List.getElem?_range h]
 by_cases e : i < k
 ·exact ⟨_,_,_,_,by simp only [Option.map_some,if_pos e]; rfl⟩
 ·exact ⟨_,_,_,_,by simp only [Option.map_some,if_neg e]; rfl⟩
structure MulOk (p q : List Rat) : Prop where
 m : ∀ k i,i <= k -> i < p.length -> k - i < q.length -> FM (cf p i) (cf q (k - i))
 a : ∀ k i,i <= k -> i < p.length -> k - i < q.length -> FA (psum i fun j => cf p j * cf q (k - j)) (cf p i * cf q (k - i))
theorem idx_nat {p : List Rat} {i : Nat} {x : Int} (h : x = (i : Int)) (hi : i < p.length) : (p.map rv)[x.toNat]? = some (rv (cf p i)):=by
 subst h; rw [Int.toNat_natCast]; exact poly_at hi
theorem w64_nat {x : Int} {n : Nat} (h : x = (n : Int)) (hn : n <= 9223372036854775807) : w64 x = (n : Int):=by rw [h,w64_eq (by omega)]
theorem mul_spec (gl : List (Nat × AV)) {p q : List Rat} (hp : 0 < p.length) (hq : 0 < q.length) (hl : p.length + q.length <= 66) (ok : MulOk p q) : Spec Tryz.prog gl 52 [polyV p,polyV q] (polyV (mulP p q)):=by
 have lp:=poly_len p
 have lq:=poly_len q
 have e1 : w64 (((p.map rv).length : Int) + ((q.map rv).length : Int)) = ((p.length + q.length : Nat) : Int):=w64_nat (by rw [lp,lq]; omega) (by omega)
 have e2 : w64 (((p.length + q.length : Nat) : Int) - 2) = ((p.length + q.length - 2 : Nat) : Int):=w64_nat (by omega) (by omega)
 have e3 : w64 (((p.length + q.length : Nat) : Int) - 1) = ((p.length + q.length - 1 : Nat) : Int):=w64_nat (by omega) (by omega)
 have o0 : Spec Tryz.prog gl 59 [.int .i64 0] (rV 0):=of_uni gl (n:=0) (by decide) (by decide)
 refine spec_fn T_ok mixed_ok 0 Tryz.func52 fn_ok52 (by kernel_rfl) ?_
 refine grE (fun g => absurd (show ((p.map rv).length : Int) = 0 from g) (by omega)) (fun _ => ?_)
 repeat (first | refine gT ?_ | refine gF ?_ | refine brT ?_ | refine brF ?_)
 refine brE (fun g => absurd (show ((q.map rv).length : Int) = 0 from g) (by omega)) (fun _ => ?_)
 repeat (first | refine gT ?_ | refine gF ?_ | refine brT ?_ | refine brF ?_)
 refine br (fun g => absurd (show w64 (w64 (((p.map rv).length : Int) + ((q.map rv).length : Int)) - 2) > 64 from g) (by rw [e1,e2]; omega)) (fun _ => ?_)
 repeat (first | refine gT ?_ | refine gF ?_ | refine brT ?_ | refine brF ?_)
 have hn : w64 (w64 (((p.map rv).length : Int) + ((q.map rv).length : Int)) - 1) = ((p.length + q.length - 1 : Nat) : Int):=by rw [e1,e3]
 refine And.intro (show (0 : Int) <= w64 (w64 (((p.map rv).length : Int) + ((q.map rv).length : Int)) - 1) by omega) (And.intro (Int.le_refl _) (And.intro (show w64 (w64 (((p.map rv).length : Int) + ((q.map rv).length : Int)) - 1) * 64 <= 140737488355328 by omega) (And.intro (show w64 (w64 (((p.map rv).length : Int) + ((q.map rv).length : Int)) - 1) <= ((maxLen : Nat) : Int) by simp only [maxLen]; omega) ?_)))
 obtain ⟨N,hN⟩ : ∃ N,N = p.length + q.length - 1:=⟨_,rfl⟩
 rw [<- hN] at hn
 refine aw_loopN 1 (fun k : Nat => stOf [(0,polyV p),(1,polyV q),(5,.ms 0 0 N),(34,.int .i64 (N : Int)),(35,.int .i64 (k : Int))] [(0,.arr (34,4) (fillQ (conv p q) N k) true)] 1) (fun k => k <= N) (fun k => N - k) 0 (Nat.zero_le _)
  (.inl (le_by ⟨rfl,rfl,(show AV.ms 0 0 (w64 (w64 (((p.map rv).length : Int) + ((q.map rv).length : Int)) - 1)).toNat = _ by rw [hn]; rfl),(show AV.int .i64 ((w64 (w64 (((p.map rv).length : Int) + ((q.map rv).length : Int)) - 1)).toNat : Int) = _ by rw [hn]; rfl),rfl,trivial⟩ ⟨(show some (Blk.arr (34,4) (List.replicate (w64 (w64 (((p.map rv).length : Int) + ((q.map rv).length : Int)) - 1)).toNat z4) true) = _ by rw [hn,fill_zero]; rfl),trivial⟩ (Nat.le_refl _))) (by kernel_rfl) ?_
 intro k hk P hP
 refine br (fun g => ?_) (fun g => ?_)
 ·have g : k < N:=Int.ofNat_lt.1 g
  unfold rV rv at o0
  first | refine Exists.intro _ (And.intro (o0) ?_) | refine Hn_by (Exists.intro _ (And.intro (o0) ?_))
  have hs0 : psum (k + 1 - q.length) (fun j => cf p j * cf q (k - j)) = 0:=psum_zero fun j hj => by rw [cf_out (p:=q) (by omega),Rat.mul_zero]
  refine aw_loop (fun i : Nat => stOf [(0,polyV p),(1,polyV q),(5,.ms 0 0 N),(34,.int .i64 (N : Int)),(35,.int .i64 (k : Int)),(6,.int .i64 (k : Int)),(7,.bp 1 0),(8,.int .i64 (i : Int))] [(0,.arr (34,4) (fillQ (conv p q) N k) true),(1,.box (rv (psum i fun j => cf p j * cf q (k - j))))] 2)
   (fun i => k + 1 - q.length <= i∧i <= min k (p.length - 1) + 1) (fun i => min k (p.length - 1) + 1 - i) (k + 1 - q.length) ⟨Nat.le_refl _,by omega⟩
   (le_by ⟨rfl,rfl,rfl,rfl,rfl,rfl,rfl,int_eq ?_,trivial⟩ ⟨rfl,?_,trivial⟩ (Nat.le_refl _)) ?_
  ·show (if (0 : Int) < w64 (w64 ((k : Int) - ((q.map rv).length : Int)) + 1) then w64 (w64 ((k : Int) - ((q.map rv).length : Int)) + 1) else 0) = _
   rw [lq,w64_eq (n:=(k : Int) - (q.length : Int)) (by omega),w64_eq (by omega)]
   split <;> omega
  ·rw [hs0]; rfl
  ·rintro i ⟨h1,h2⟩ P2 hP2
   have emin : (if w64 (((p.map rv).length : Int) - 1) < (k : Int) then w64 (((p.map rv).length : Int) - 1) else (k : Int)) = ((min k (p.length - 1) : Nat) : Int):=by
    rw [lp,w64_eq (by omega)]
    split <;> omega
   refine br (fun g2 => ?_) (fun g2 => ?_)
   ·have g2 : (i : Int) <= (if w64 (((p.map rv).length : Int) - 1) < (k : Int) then w64 (((p.map rv).length : Int) - 1) else (k : Int)):=g2
    rw [emin] at g2
    have g2 : i <= min k (p.length - 1):=by omega
    have ip : i < p.length:=by omega
    have iq : k - i < q.length:=by omega
    have wk : w64 ((k : Int) - (i : Int)) = ((k - i : Nat) : Int):=w64_nat (by omega) (by omega)
    have m1:=mul_rat gl (ok.m k i (by omega) ip iq)
    have m2:=must_spec gl (cf p i * cf q (k - i))
    have m3:=add_rat gl (ok.a k i (by omega) ip iq)
    have m4:=must_spec gl (psum i (fun j => cf p j * cf q (k - j)) + cf p i * cf q (k - i))
    refine And.intro (by kernel_rfl) ?_
    repeat (first | refine gT ?_ | refine gF ?_ | refine brT ?_ | refine brF ?_ | refine And.intro rfl ?_)
    refine And.intro (Int.natCast_nonneg i) (Exists.intro _ (And.intro (idx_nat rfl ip) ?_))
    repeat (first | refine gT ?_ | refine gF ?_ | refine brT ?_ | refine brF ?_ | refine And.intro rfl ?_)
    refine And.intro (show (0 : Int) <= w64 ((k : Int) - (i : Int)) by omega) (Exists.intro _ (And.intro (idx_nat wk iq) ?_))
    repeat (first | refine gT ?_ | refine gF ?_ | refine brT ?_ | refine brF ?_ | refine And.intro rfl ?_)
    first | refine Exists.intro _ (And.intro (m1) ?_) | refine Hn_by (Exists.intro _ (And.intro (m1) ?_))
    repeat (first | refine gT ?_ | refine gF ?_ | refine brT ?_ | refine brF ?_ | refine And.intro rfl ?_)
    first | refine Exists.intro _ (And.intro (m2) ?_) | refine Hn_by (Exists.intro _ (And.intro (m2) ?_))
    repeat (first | refine gT ?_ | refine gF ?_ | refine brT ?_ | refine brF ?_ | refine And.intro rfl ?_)
    first | refine Exists.intro _ (And.intro (m3) ?_) | refine Hn_by (Exists.intro _ (And.intro (m3) ?_))
    repeat (first | refine gT ?_ | refine gF ?_ | refine brT ?_ | refine brF ?_ | refine And.intro rfl ?_)
    first | refine Exists.intro _ (And.intro (m4) ?_) | refine Hn_by (Exists.intro _ (And.intro (m4) ?_))
    repeat (first | refine gT ?_ | refine gF ?_ | refine brT ?_ | refine brF ?_ | refine And.intro rfl ?_)
    refine hP2 (i + 1) _ (le_by ⟨rfl,rfl,rfl,rfl,rfl,rfl,rfl,int_eq ?_,trivial⟩ ⟨rfl,rfl,trivial⟩ (Nat.le_refl _)) ⟨by omega,by omega⟩ (by omega)
    show w64 ((i : Int) + 1) = _
    exact w64_nat (by omega) (by omega)
   ·have g2 : ¬ (i : Int) <= (if w64 (((p.map rv).length : Int) - 1) < (k : Int) then w64 (((p.map rv).length : Int) - 1) else (k : Int)):=g2
    rw [emin] at g2
    have ei : i = min k (p.length - 1) + 1:=by omega
    have es : psum i (fun j => cf p j * cf q (k - j)) = conv p q k:=by
     unfold conv
     rw [psum_more (show i <= k + 1 by omega)]
     intro j j1 j2
     rw [cf_out (p:=p) (by omega),Rat.zero_mul]
    rw [es]
    clear hP2
    obtain ⟨a,b,c,d,hr⟩:=fill_at (conv p q) N k g
    refine And.intro (Int.natCast_nonneg k) (And.intro (show (k : Int) < (N : Int) by omega) ?_)
    refine Exists.intro _ (And.intro (show (fillQ (conv p q) N k)[0 + (k : Int).toNat]? = some [a,b,c,d] by rw [Nat.zero_add,Int.toNat_natCast]; exact hr) ?_)
    refine hP (k + 1) _ (leC_by ⟨⟨rfl,rfl⟩,⟨rfl,rfl⟩,⟨rfl,rfl⟩,⟨rfl,rfl⟩,⟨int_eq ?_,rfl⟩,trivial⟩ ⟨⟨⟨?_,rfl⟩,rfl⟩,trivial⟩ (Nat.le_refl _)) g (by omega)
    ·show w64 ((k : Int) + 1) = _
     exact w64_nat (by omega) (by omega)
    ·show some (Blk.arr (34,4) ((fillQ (conv p q) N k).set (0 + (k : Int).toNat) (rv (conv p q k))) true) = _
     rw [Nat.zero_add,Int.toNat_natCast,fill_set g]
 ·have g : ¬ k < N:=fun h => g (Int.ofNat_lt.2 h)
  have ek : k = N:=by omega
  subst ek
  rw [fill_full]
  have em : mulP p q = (List.range k).map (conv p q):=by unfold mulP; rw [if_neg (by omega),hN]
  rw [em]
  clear hP
  have hml : (((List.range k).map (conv p q)).map rv).length = k:=by simp
  refine And.intro (Or.inr rfl) (And.intro (show 0 + k <= (((List.range k).map (conv p q)).map rv).length by omega) ?_)
  show AV.sl (((((List.range k).map (conv p q)).map rv).drop 0).take k) = _
  rw [List.drop_zero,List.take_of_length_le (by omega)]
end Ab
end
section
open Go Go.Proofs
namespace Ab
set_option maxRecDepth 100000
set_option maxHeartbeats 1000000
theorem want2 (gl : List (Nat × AV)) {p q : List Rat} (hp : Poly p) (hq : Poly q) : Spec Tryz.prog gl 51 [.sl [[polyV p],[polyV q]]] (.tup []) :=
 want_spec gl (l:=[p,q]) (by intro r hr; simp only [List.mem_cons,List.not_mem_nil,or_false] at hr; rcases hr with rfl | rfl; exact hp; exact hq) (by simp)
end Ab
end
section
open Go Go.Proofs
namespace Ab
set_option maxRecDepth 100000
set_option maxHeartbeats 1000000
def mergeP (f : Nat -> Rat) (p q : List Rat) : List Rat:=clipP ((List.range (max p.length q.length)).map f)
end Ab
end
section
open Go Go.Proofs
namespace Ab
set_option maxRecDepth 100000
set_option maxHeartbeats 1000000
def rowsF (f : Nat -> Rat) (n : Nat) : List (List AV):=(List.range n).map fun j => rv (f j)
theorem rowsF_poly (p : List Rat) : p.map rv = rowsF (cf p) p.length:=by
 unfold rowsF
 apply List.ext_getElem
 ·simp
 ·intro i h1 h2
  simp only [List.length_map] at h1
  simp [cf,List.getD,List.getElem?_eq_getElem h1]
theorem rowsF_at {f : Nat -> Rat} {n j : Nat} {x : Int} (h : x = (j : Int)) (hj : j < n) : (rowsF f n)[0 + x.toNat]? = some (rv (f j)):=by
 subst h
 unfold rowsF
 rw [Nat.zero_add,Int.toNat_natCast,List.getElem?_map,List.getElem?_range hj]
 rfl
theorem rowsF_set {f g : Nat -> Rat} {n j : Nat} {x : Int} (h : x = (j : Int)) (h2 : ∀ i,i < n -> i ≠ j -> g i = f i) : (rowsF f n).set (0 + x.toNat) (rv (g j)) = rowsF g n:=by
 subst h
 rw [Nat.zero_add,Int.toNat_natCast]
 unfold rowsF
 apply List.ext_getElem
 ·simp
 ·intro i h3 h4
  simp only [List.length_set,List.length_map,List.length_range] at h3
  simp only [List.getElem_set,List.getElem_map,List.getElem_range]
  by_cases e : j = i
  ·subst e; simp
  ·rw [if_neg e,h2 i h3 (fun e2 => e e2.symm)]
theorem rowsF_len (f : Nat -> Rat) (n : Nat) : (rowsF f n).length = n:=by simp [rowsF]
def topQ (f : Nat -> Rat) (m t : Nat) : List (List AV):=(List.range m).map fun j => if m - t <= j then rv (f j) else z4
theorem topQ_zero (f : Nat -> Rat) (m : Nat) : topQ f m 0 = List.replicate m z4:=by
 unfold topQ
 apply List.ext_getElem
 ·simp
 ·intro i h1 h2
  simp only [List.length_map,List.length_range] at h1
  simp [show ¬ m <= i by omega]
theorem topQ_full (f : Nat -> Rat) (m : Nat) : topQ f m m = ((List.range m).map f).map rv:=by
 unfold topQ
 rw [List.map_map]
 apply List.map_congr_left
 intro j _
 rw [if_pos (by omega)]; rfl
theorem topQ_set {f : Nat -> Rat} {m t k : Nat} {x : Int} (h : x = (k : Int)) (hk : k + t + 1 = m) : (topQ f m t).set (0 + x.toNat) (rv (f k)) = topQ f m (t + 1):=by
 subst h
 rw [Nat.zero_add,Int.toNat_natCast]
 unfold topQ
 apply List.ext_getElem
 ·simp
 ·intro i h3 h4
  simp only [List.length_set,List.length_map,List.length_range] at h3
  simp only [List.getElem_set,List.getElem_map,List.getElem_range]
  by_cases e : k = i
  ·subst e; rw [if_pos rfl,if_pos (by omega)]
  ·rw [if_neg e]
   by_cases e2 : m - t <= i
   ·rw [if_pos e2,if_pos (by omega)]
   ·rw [if_neg e2,if_neg (by omega)]
theorem topQ_at (f : Nat -> Rat) (m t : Nat) {i : Nat} (h : i < m) : ∃ a b c d,(topQ f m t)[i]? = some [a,b,c,d]:=by
 unfold topQ
 rw [List.getElem?_map,List.getElem?_range h]
 by_cases e : m - t <= i
 ·exact ⟨_,_,_,_,by simp only [Option.map_some,if_pos e]; rfl⟩
 ·exact ⟨_,_,_,_,by simp only [Option.map_some,if_neg e]; rfl⟩
structure DivOk (p q : List Rat) : Prop where
 d : ∀ t,t < p.length - (q.length - 1) -> FD (divF p q (q.length - 1) (p.length - (q.length - 1)) t (p.length - (q.length - 1) - 1 - t + (q.length - 1))) (cf q (q.length - 1))
 m : ∀ t,t < p.length - (q.length - 1) -> ∀ i,i < q.length - 1 -> FM (divC p q (q.length - 1) (p.length - (q.length - 1)) (p.length - (q.length - 1) - 1 - t)) (cf q i)
 s : ∀ t,t < p.length - (q.length - 1) -> ∀ i,i < q.length - 1 -> FS (divF p q (q.length - 1) (p.length - (q.length - 1)) t (p.length - (q.length - 1) - 1 - t + i)) (divC p q (q.length - 1) (p.length - (q.length - 1)) (p.length - (q.length - 1) - 1 - t) * cf q i)
 r : AllRF (divR0 p q)
theorem udiv_short (gl : List (Nat × AV)) {p q : List Rat} (hq : 0 < q.length) (hl : p.length < q.length) (hl2 : q.length <= 65) : Spec Tryz.prog gl 74 [polyV p,polyV q] (.tup [polyV [],polyV p]):=by
 have lp:=poly_len p
 have lq:=poly_len q
 refine spec_fn T_ok mixed_ok 1 Tryz.func74 fn_ok74 (by kernel_rfl) ?_
 refine Hn_in Tryz.f122 Tryz.func122 fn_ok122 (by kernel_rfl) ?_
 cases p with
 | nil =>
  refine And.intro ?_ ?_
  ·repeat (first | refine gT ?_ | refine gF ?_ | refine brT ?_ | refine brF ?_)
   refine And.intro (Or.inr rfl) ?_
   refine br (fun _ => ?_) (fun g => absurd (show ((0 : Nat) : Int) <= w64 (((q.map rv).length : Int) - 1) by rw [w64_eq (by omega)]; omega) g)
   exact And.intro (Or.inr rfl) rfl
  ·repeat (first | refine gT ?_ | refine gF ?_ | refine brT ?_ | refine brF ?_)
   refine And.intro rfl (And.intro (fun r hr => by cases hr) (And.intro (by decide) (And.intro (Nat.zero_le _) ?_)))
   refine And.intro (Or.inr rfl) ?_
   refine br (fun _ => ?_) (fun g => absurd (show ((0 : Nat) : Int) <= w64 (((q.map rv).length : Int) - 1) by rw [w64_eq (by omega)]; omega) g)
   exact And.intro (Or.inr rfl) (And.intro (Nat.le_refl 0) rfl)
 | cons x p =>
  have hok : RowsOk 4 ((x :: p).map rv):=by
   intro r hr
   obtain ⟨y,_,rfl⟩:=List.mem_map.1 hr
   rfl
  have hln : ((x :: p).map rv).length = (x :: p).length:=List.length_map _
  repeat (first | refine gT ?_ | refine gF ?_ | refine brT ?_ | refine brF ?_)
  refine And.intro rfl (And.intro hok (And.intro (show (0 + ((x :: p).map rv).length) * 64 <= 140737488355328 by omega) (And.intro (show 0 + ((x :: p).map rv).length <= maxLen by simp only [maxLen]; omega) ?_)))
  refine And.intro (Or.inr rfl) ?_
  refine br (fun _ => ?_) (fun g => absurd (show (((((x :: p).map rv).length : Nat) : Int)) <= w64 (((q.map rv).length : Int) - 1) by rw [w64_eq (by omega)]; omega) g)
  refine And.intro (Or.inr rfl) (And.intro (show 0 + (0 + ((x :: p).map rv).length) <= (([] : List (List AV)) ++ (x :: p).map rv).length by rw [List.nil_append]; omega) ?_)
  show AV.tup [AV.sl [],AV.sl (((([] : List (List AV)) ++ (x :: p).map rv).drop 0).take (0 + ((x :: p).map rv).length))] = _
  rw [List.drop_zero,List.nil_append,Nat.zero_add,List.take_of_length_le (Nat.le_refl _)]
  rfl
theorem udiv_long (gl : List (Nat × AV)) {p q : List Rat} (hq : 0 < q.length) (hl : q.length <= p.length) (hl2 : p.length <= 65) (ok : DivOk p q) : Spec Tryz.prog gl 74 [polyV p,polyV q] (.tup [polyV (divQ p q),polyV (clipP (divR0 p q))]):=by
 have lp:=poly_len p
 have lq:=poly_len q
 obtain ⟨d,hd⟩ : ∃ d,d = q.length - 1:=⟨_,rfl⟩
 obtain ⟨n,hn⟩ : ∃ n,n = p.length:=⟨_,rfl⟩
 obtain ⟨m,hm⟩ : ∃ m,m = n - d:=⟨_,rfl⟩
 obtain ⟨okd,okm,oks,okr⟩:=ok
 have cl:=clip_spec gl okr (by simp [divR0]; omega)
 unfold divQ divR0 at *
 rw [<- hn,<- hd,<- hm] at okd okm oks cl
 rw [<- hn,<- hd,<- hm]
 have wd : w64 (((q.map rv).length : Int) - 1) = (d : Int):=w64_nat (by rw [lq]; omega) (by omega)
 have hok : RowsOk 4 (p.map rv):=by
  intro r hr
  obtain ⟨y,_,rfl⟩:=List.mem_map.1 hr
  rfl
 have hln : (p.map rv).length = n:=by rw [List.length_map,hn]
 refine spec_fn T_ok mixed_ok 1 Tryz.func74 fn_ok74 (by kernel_rfl) ?_
 refine Hn_in Tryz.f122 Tryz.func122 fn_ok122 (by kernel_rfl) ?_
 obtain ⟨x,p',rfl⟩ : ∃ x p',p = x :: p':=by
  cases p with
  | nil => simp at hn; omega
  | cons x p' => exact ⟨x,p',rfl⟩
 repeat (first | refine gT ?_ | refine gF ?_ | refine brT ?_ | refine brF ?_)
 refine And.intro rfl (And.intro hok (And.intro (show (0 + ((x :: p').map rv).length) * 64 <= 140737488355328 by omega) (And.intro (show 0 + ((x :: p').map rv).length <= maxLen by simp only [maxLen]; omega) ?_)))
 generalize x :: p' = p at *
 refine And.intro (Or.inr rfl) ?_
 refine br (fun g => absurd (show (((p.map rv).length : Nat) : Int) <= w64 (((q.map rv).length : Int) - 1) from g) (by rw [wd]; omega)) (fun _ => ?_)
 repeat (first | refine gT ?_ | refine gF ?_ | refine brT ?_ | refine brF ?_)
 have wm : w64 (((p.map rv).length : Int) - w64 (((q.map rv).length : Int) - 1)) = (m : Int):=by rw [wd]; exact w64_nat (by omega) (by omega)
 have w7 : w64 (w64 (((p.map rv).length : Int) - 1) - w64 (((q.map rv).length : Int) - 1)) = (m : Int) - 1 - ((0 : Nat) : Int):=by
  rw [wd,w64_nat (x:=((p.map rv).length : Int) - 1) (n:=n - 1) (by omega) (by omega),w64_eq (by omega)]; omega
 refine And.intro (show (0 : Int) <= w64 (((p.map rv).length : Int) - w64 (((q.map rv).length : Int) - 1)) by omega) (And.intro (Int.le_refl _) (And.intro (show w64 (((p.map rv).length : Int) - w64 (((q.map rv).length : Int) - 1)) * 64 <= 140737488355328 by omega) (And.intro (show w64 (((p.map rv).length : Int) - w64 (((q.map rv).length : Int) - 1)) <= ((maxLen : Nat) : Int) by simp only [maxLen]; omega) ?_)))
 refine aw_loopN 3 (fun t : Nat => stOf [(0,polyV p),(1,polyV q),(4,.ms 2 0 m),(5,.ms 1 0 n),(6,.int .i64 (d : Int)),(7,.int .i64 ((m : Int) - 1 - (t : Int)))] [(1,.arr (34,4) (rowsF (divF p q d m t) n) true),(2,.arr (34,4) (topQ (divC p q d m) m t) true)] 3) (fun t => t <= m) (fun t => m - t) 0 (Nat.zero_le _)
  (.inl (le_by ⟨rfl,rfl,(show AV.ms 2 0 (w64 (((p.map rv).length : Int) - w64 (((q.map rv).length : Int) - 1))).toNat = _ by rw [wm]; rfl),(show AV.ms 1 0 (0 + (p.map rv).length) = _ by rw [Nat.zero_add,hln]),int_eq wd,int_eq w7,trivial⟩
   ⟨(show some (Blk.arr (34,4) (([] : List (List AV)) ++ p.map rv) true) = _ by rw [List.nil_append,rowsF_poly,<- hn]; rfl),(show some (Blk.arr (34,4) (List.replicate (w64 (((p.map rv).length : Int) - w64 (((q.map rv).length : Int) - 1))).toNat z4) true) = _ by rw [wm,topQ_zero]; rfl),trivial⟩ (Nat.le_refl _))) (by kernel_rfl) ?_
 intro t ht P hP
 refine br (fun g => ?_) (fun g => ?_)
 ·have g : t < m:=by have : (m : Int) - 1 - (t : Int) ≥ 0:=g; omega
  obtain ⟨k,hk⟩ : ∃ k,k = m - 1 - t:=⟨_,rfl⟩
  have ek : (m : Int) - 1 - (t : Int) = (k : Int):=by omega
  have wkd : w64 ((m : Int) - 1 - (t : Int) + (d : Int)) = ((k + d : Nat) : Int):=w64_nat (by omega) (by omega)
  have qd:=poly_at (p:=q) (k:=d) (by omega)
  have ec : divF p q d m t (k + d) / cf q d = divC p q d m k:=by
   unfold divC
   rw [show m - 1 - k = t by omega]
  have dv:=div_rat gl (okd t g)
  rw [<- hk,ec] at dv
  have mu:=must_spec gl (divC p q d m k)
  refine And.intro (by kernel_rfl) ?_
  repeat (first | refine gT ?_ | refine gF ?_ | refine brT ?_ | refine brF ?_ | refine And.intro rfl ?_)
  refine And.intro (show (0 : Int) <= w64 ((m : Int) - 1 - (t : Int) + (d : Int)) by omega) (And.intro (show w64 ((m : Int) - 1 - (t : Int) + (d : Int)) < (n : Int) by omega) ?_)
  repeat (first | refine gT ?_ | refine gF ?_ | refine brT ?_ | refine brF ?_ | refine And.intro rfl ?_)
  refine Exists.intro _ (And.intro (rowsF_at wkd (by omega)) ?_)
  repeat (first | refine gT ?_ | refine gF ?_ | refine brT ?_ | refine brF ?_ | refine And.intro rfl ?_)
  refine And.intro (Int.natCast_nonneg d) (Exists.intro _ (And.intro (idx_nat rfl (by omega)) ?_))
  repeat (first | refine gT ?_ | refine gF ?_ | refine brT ?_ | refine brF ?_ | refine And.intro rfl ?_)
  first | refine Exists.intro _ (And.intro (dv) ?_) | refine Hn_by (Exists.intro _ (And.intro (dv) ?_))
  repeat (first | refine gT ?_ | refine gF ?_ | refine brT ?_ | refine brF ?_ | refine And.intro rfl ?_)
  first | refine Exists.intro _ (And.intro (mu) ?_) | refine Hn_by (Exists.intro _ (And.intro (mu) ?_))
  repeat (first | refine gT ?_ | refine gF ?_ | refine brT ?_ | refine brF ?_ | refine And.intro rfl ?_)
  obtain ⟨a,b,c',e',hr⟩:=topQ_at (divC p q d m) m t (i:=k) (by omega)
  refine And.intro (show (0 : Int) <= (m : Int) - 1 - (t : Int) by omega) (And.intro (show (m : Int) - 1 - (t : Int) < (m : Int) by omega) ?_)
  refine Exists.intro _ (And.intro (show (topQ (divC p q d m) m t)[0 + ((m : Int) - 1 - (t : Int)).toNat]? = some [a,b,c',e'] by rw [Nat.zero_add,ek,Int.toNat_natCast]; exact hr) ?_)
  have hokq : RowsOk 4 (q.map rv):=by
   intro r hr
   obtain ⟨y,_,rfl⟩:=List.mem_map.1 hr
   rfl
  refine And.intro (Int.natCast_nonneg d) (And.intro (show (d : Int) <= ((q.map rv).length : Int) by omega) (And.intro hokq ?_))
  obtain ⟨G,hG⟩ : ∃ G : Nat -> Nat -> Rat,G = fun i j => if k <= j∧j < k + i then divF p q d m t j - divC p q d m k * cf q (j - k) else divF p q d m t j:=⟨_,rfl⟩
  have hG0 : G 0 = divF p q d m t:=by
   rw [hG]; funext j
   simp only
   rw [if_neg (by omega)]
  have hGd : G d = divF p q d m (t + 1):=by
   rw [hG]; funext j
   simp only [divF,<- hk,ec]
  have htk : (((q.map rv).take ((d : Int)).toNat).drop 0) = (q.take d).map rv:=by rw [Int.toNat_natCast,List.drop_zero,List.map_take]
  have hdl : ((q.take d).map rv).length = d:=by rw [List.length_map,List.length_take]; omega
  refine aw_loopN 4 (fun i : Nat => stOf [(0,polyV p),(1,polyV q),(4,.ms 2 0 m),(5,.ms 1 0 n),(6,.int .i64 (d : Int)),(7,.int .i64 ((m : Int) - 1 - (t : Int))),(8,.bp 3 0),(55,.sl ((q.take d).map rv)),(56,.int .i64 (d : Int)),(57,.int .i64 (i : Int))] [(1,.arr (34,4) (rowsF (G i) n) true),(2,.arr (34,4) (topQ (divC p q d m) m (t + 1)) true),(3,.box (rv (divC p q d m k)))] 4) (fun i => i <= d) (fun i => d - i) 0 (Nat.zero_le _)
   (.inl (le_by ⟨rfl,rfl,rfl,rfl,rfl,rfl,rfl,sl_eq htk,int_eq (show (((((q.map rv).take ((d : Int)).toNat).drop 0).length : Nat) : Int) = _ by rw [htk,hdl]),rfl,trivial⟩ ⟨(by rw [hG0]; rfl),(show some (Blk.arr (34,4) ((topQ (divC p q d m) m t).set (0 + ((m : Int) - 1 - (t : Int)).toNat) (rv (divC p q d m k))) true) = _ by rw [topQ_set ek (by omega)]),rfl,trivial⟩ (Nat.le_refl _))) (by kernel_rfl) ?_
  intro i hi P2 hP2
  refine br (fun g2 => ?_) (fun g2 => ?_)
  ·have g2 : i < d:=Int.ofNat_lt.1 g2
   have hq1 : ((q.take d).map rv)[((i : Int)).toNat]? = some (rv (cf q i)):=by
    rw [Int.toNat_natCast,poly_at (by rw [List.length_take]; omega)]
    congr 2
    simp [List.getD,g2]
   have wki : w64 ((m : Int) - 1 - (t : Int) + (i : Int)) = ((k + i : Nat) : Int):=w64_nat (by omega) (by omega)
   have eG : G i (k + i) = divF p q d m t (k + i):=by rw [hG]; simp only; rw [if_neg (by omega)]
   have eG1 : G (i + 1) (k + i) = divF p q d m t (k + i) - divC p q d m k * cf q i:=by rw [hG]; simp only; rw [if_pos (by omega),Nat.add_sub_cancel_left]
   have fm:=okm t g i g2
   have fs:=oks t g i g2
   rw [<- hk] at fm fs
   have m1:=mul_rat gl fm
   have m2:=must_spec gl (divC p q d m k * cf q i)
   have m3:=sub_rat gl fs
   rw [<- eG1,<- eG] at m3
   have m4:=must_spec gl (G (i + 1) (k + i))
   refine And.intro (Int.natCast_nonneg i) (Exists.intro _ (And.intro hq1 ?_))
   repeat (first | refine gT ?_ | refine gF ?_ | refine brT ?_ | refine brF ?_ | refine And.intro rfl ?_)
   refine And.intro (show (0 : Int) <= w64 ((m : Int) - 1 - (t : Int) + (i : Int)) by omega) (And.intro (show w64 ((m : Int) - 1 - (t : Int) + (i : Int)) < (n : Int) by omega) ?_)
   repeat (first | refine gT ?_ | refine gF ?_ | refine brT ?_ | refine brF ?_ | refine And.intro rfl ?_)
   refine Exists.intro _ (And.intro (rowsF_at wki (by omega)) ?_)
   repeat (first | refine gT ?_ | refine gF ?_ | refine brT ?_ | refine brF ?_ | refine And.intro rfl ?_)
   first | refine Exists.intro _ (And.intro (m1) ?_) | refine Hn_by (Exists.intro _ (And.intro (m1) ?_))
   repeat (first | refine gT ?_ | refine gF ?_ | refine brT ?_ | refine brF ?_ | refine And.intro rfl ?_)
   first | refine Exists.intro _ (And.intro (m2) ?_) | refine Hn_by (Exists.intro _ (And.intro (m2) ?_))
   repeat (first | refine gT ?_ | refine gF ?_ | refine brT ?_ | refine brF ?_ | refine And.intro rfl ?_)
   first | refine Exists.intro _ (And.intro (m3) ?_) | refine Hn_by (Exists.intro _ (And.intro (m3) ?_))
   repeat (first | refine gT ?_ | refine gF ?_ | refine brT ?_ | refine brF ?_ | refine And.intro rfl ?_)
   first | refine Exists.intro _ (And.intro (m4) ?_) | refine Hn_by (Exists.intro _ (And.intro (m4) ?_))
   repeat (first | refine gT ?_ | refine gF ?_ | refine brT ?_ | refine brF ?_ | refine And.intro rfl ?_)
   refine And.intro (show (0 : Int) <= w64 ((m : Int) - 1 - (t : Int) + (i : Int)) by omega) (And.intro (show w64 ((m : Int) - 1 - (t : Int) + (i : Int)) < (n : Int) by omega) ?_)
   repeat (first | refine gT ?_ | refine gF ?_ | refine brT ?_ | refine brF ?_ | refine And.intro rfl ?_)
   refine Exists.intro _ (And.intro (rowsF_at wki (by omega)) ?_)
   refine hP2 (i + 1) _ (leC_by ⟨⟨rfl,rfl⟩,⟨rfl,rfl⟩,⟨rfl,rfl⟩,⟨rfl,rfl⟩,⟨rfl,rfl⟩,⟨rfl,rfl⟩,⟨rfl,rfl⟩,⟨rfl,rfl⟩,⟨rfl,rfl⟩,⟨int_eq ?_,rfl⟩,trivial⟩ ⟨⟨⟨?_,rfl⟩,rfl⟩,⟨⟨rfl,rfl⟩,rfl⟩,⟨⟨rfl,rfl⟩,rfl⟩,trivial⟩ (Nat.le_refl _)) g2 (by omega)
   ·show w64 ((i : Int) + 1) = _
    exact w64_nat (by omega) (by omega)
   ·show some (Blk.arr (34,4) ((rowsF (G i) n).set (0 + (w64 ((m : Int) - 1 - (t : Int) + (i : Int))).toNat) (rv (G (i + 1) (k + i)))) true) = _
    rw [rowsF_set wki]
    intro j _ hj
    rw [hG]
    simp only
    by_cases h1 : k <= j∧j < k + i
    ·rw [if_pos h1,if_pos (by omega)]
    ·rw [if_neg h1,if_neg (by omega)]
  ·have g2 : ¬ i < d:=fun h => g2 (Int.ofNat_lt.2 h)
   have ei : i = d:=by omega
   subst ei
   clear hP2
   rw [hGd]
   refine hP (t + 1) _ (leC_by ⟨⟨rfl,rfl⟩,⟨rfl,rfl⟩,⟨rfl,rfl⟩,⟨rfl,rfl⟩,⟨rfl,rfl⟩,⟨int_eq ?_,rfl⟩,trivial⟩ ⟨⟨⟨rfl,rfl⟩,rfl⟩,⟨⟨rfl,rfl⟩,rfl⟩,trivial⟩ (Nat.le_refl _)) g (by omega)
   show w64 ((m : Int) - 1 - (t : Int) - 1) = _
   rw [w64_eq (by omega)]; omega
 ·have g : ¬ t < m:=fun h => g (show (m : Int) - 1 - (t : Int) ≥ 0 by omega)
  have et : t = m:=by omega
  subst et
  clear hP
  rw [topQ_full]
  have hml : (((List.range t).map (divC p q d t)).map rv).length = t:=by simp
  refine And.intro (Int.natCast_nonneg d) (And.intro (show (d : Int) <= (n : Int) by omega) ?_)
  refine Hn_by (And.intro (show 0 + 0 + ((d : Int).toNat - 0) <= (rowsF (divF p q d t t) n).length by rw [rowsF_len,Int.toNat_natCast]; omega) ?_)
  rw [show ((rowsF (divF p q d t t) n).drop (0 + 0)).take ((d : Int).toNat - 0) = ((List.range d).map (divF p q d t t)).map rv by
   rw [Int.toNat_natCast,Nat.sub_zero,Nat.add_zero,List.drop_zero]
   unfold rowsF
   rw [<- List.map_take,List.take_range,Nat.min_eq_left (by omega),List.map_map]
   rfl]
  refine Exists.intro _ (And.intro cl ?_)
  repeat (first | refine gT ?_ | refine gF ?_ | refine brT ?_ | refine brF ?_)
  refine And.intro (Or.inr rfl) (And.intro (show 0 + t <= (((List.range t).map (divC p q d t)).map rv).length by omega) ?_)
  show AV.tup [AV.sl (((((List.range t).map (divC p q d t)).map rv).drop 0).take t),_] = _
  rw [List.drop_zero,List.take_of_length_le (by omega)]
end Ab
end
section
open Go Go.Proofs
namespace Ab
set_option maxRecDepth 100000
set_option maxHeartbeats 1000000
inductive DivR : List Rat -> List Rat -> List Rat -> List Rat -> Prop
 | short {p q : List Rat} : p.length < q.length -> DivR p q [] p
 | long {p q : List Rat} : q.length <= p.length -> DivOk p q -> DivR p q (divQ p q) (clipP (divR0 p q))
theorem divide_spec (gl : List (Nat × AV)) {p q a r : List Rat} (hq : 0 < q.length) (h1 : p.length <= 65) (h2 : q.length <= 65) (h : DivR p q a r) : Spec Tryz.prog gl 74 [polyV p,polyV q] (.tup [polyV a,polyV r]):=by
 cases h with
 | short hl => exact udiv_short gl hq hl h2
 | long hl ok => exact udiv_long gl hq hl h1 ok
theorem DivMod_spec (gl : List (Nat × AV)) {p q a r : List Rat} (hp : Poly p) (hq : Poly q) (h0 : 0 < q.length) (h : DivR p q a r) : Spec Tryz.prog gl 32 [polyV p,polyV q] (.tup [polyV a,polyV r,.int .i64 0]):=by
 have w:=want2 gl hp hq
 have d:=divide_spec gl h0 hp.2.1 hq.2.1 h
 have lq:=poly_len q
 refine spec_fn T_ok mixed_ok 0 Tryz.func32 fn_ok32 (by kernel_rfl) ?_
 refine And.intro (Nat.le_refl 2) ?_
 first | refine Exists.intro _ (And.intro (w) ?_) | refine Hn_by (Exists.intro _ (And.intro (w) ?_))
 refine brE (fun g => absurd (show ((q.map rv).length : Int) = 0 from g) (by omega)) (fun _ => ?_)
 first | refine Exists.intro _ (And.intro (d) ?_) | refine Hn_by (Exists.intro _ (And.intro (d) ?_))
 refine And.intro (by kernel_rfl) ?_
 repeat (first | refine gT ?_ | refine gF ?_ | refine brT ?_ | refine brF ?_ | refine And.intro rfl ?_)
 exact And.intro (Or.inr rfl) rfl
theorem poly_nil : Poly []:=⟨fun _ h => (by cases h),(by simp),fun h => absurd rfl h⟩
theorem DivMod_zero (gl : List (Nat × AV)) {p : List Rat} (hp : Poly p) : Spec Tryz.prog gl 32 [polyV p,polyV []] (.tup [polyV [],polyV [],.int .i64 4]):=by
 have w:=want2 gl hp (q:=[]) poly_nil
 refine spec_fn T_ok mixed_ok 0 Tryz.func32 fn_ok32 (by kernel_rfl) ?_
 refine And.intro (Nat.le_refl 2) ?_
 first | refine Exists.intro _ (And.intro (w) ?_) | refine Hn_by (Exists.intro _ (And.intro (w) ?_))
 refine brE (fun _ => ?_) (fun g => absurd rfl g)
 exact And.intro (Or.inr rfl) rfl
def MonOk (p : List Rat) : Prop:=∀ i,i < p.length -> FD (cf p i) (cf p (p.length - 1))
theorem mon_eq (p : List Rat) : monP p = (List.range p.length).map fun i => cf p i / cf p (p.length - 1):=by
 unfold monP
 apply List.ext_getElem
 ·simp
 ·intro i h1 h2
  simp only [List.length_map] at h1
  simp [cf,List.getD,List.getElem?_eq_getElem h1]
theorem monic_spec (gl : List (Nat × AV)) {p : List Rat} (hl : p.length <= 65) (ok : MonOk p) : Spec Tryz.prog gl 83 [polyV p] (polyV (monP p)):=by
 have lp:=poly_len p
 rw [mon_eq]
 obtain ⟨N,hN⟩ : ∃ N,N = p.length:=⟨_,rfl⟩
 unfold MonOk at ok
 rw [<- hN] at ok lp ⊢
 obtain ⟨f,hf⟩ : ∃ f : Nat -> Rat,f = fun i => cf p i / cf p (N - 1):=⟨_,rfl⟩
 rw [<- hf]
 refine spec_fn T_ok mixed_ok 0 Tryz.func83 fn_ok83 (by kernel_rfl) ?_
 refine And.intro (show (0 : Int) <= ((p.map rv).length : Int) by omega) (And.intro (Int.le_refl _) (And.intro (show ((p.map rv).length : Int) * 64 <= 140737488355328 by omega) (And.intro (show ((p.map rv).length : Int) <= ((maxLen : Nat) : Int) by simp only [maxLen]; omega) ?_)))
 refine aw_loopN 1 (fun k : Nat => stOf [(0,polyV p),(3,.ms 0 0 N),(9,polyV p),(10,.int .i64 (N : Int)),(11,.int .i64 (k : Int))] [(0,.arr (34,4) (fillQ f N k) true)] 1) (fun k => k <= N) (fun k => N - k) 0 (Nat.zero_le _)
  (.inl (le_by ⟨rfl,(show AV.ms 0 0 ((p.map rv).length : Int).toNat = _ by rw [lp]; rfl),rfl,int_eq lp,rfl,trivial⟩ ⟨(show some (Blk.arr (34,4) (List.replicate ((p.map rv).length : Int).toNat z4) true) = _ by rw [lp,fill_zero]; rfl),trivial⟩ (Nat.le_refl _))) (by kernel_rfl) ?_
 intro k hk P hP
 refine br (fun g => ?_) (fun g => ?_)
 ·have g : k < N:=Int.ofNat_lt.1 g
  have dv:=div_rat gl (ok k g)
  rw [show cf p k / cf p (N - 1) = f k by rw [hf]] at dv
  have mu:=must_spec gl (f k)
  have wn : w64 (((p.map rv).length : Int) - 1) = ((N - 1 : Nat) : Int):=w64_nat (by omega) (by omega)
  refine And.intro (Int.natCast_nonneg k) (Exists.intro _ (And.intro (idx_nat rfl (by omega)) ?_))
  refine And.intro (by kernel_rfl) ?_
  repeat (first | refine gT ?_ | refine gF ?_ | refine brT ?_ | refine brF ?_ | refine And.intro rfl ?_)
  refine And.intro (show (0 : Int) <= w64 (((p.map rv).length : Int) - 1) by omega) (Exists.intro _ (And.intro (idx_nat wn (by omega)) ?_))
  repeat (first | refine gT ?_ | refine gF ?_ | refine brT ?_ | refine brF ?_ | refine And.intro rfl ?_)
  first | refine Exists.intro _ (And.intro (dv) ?_) | refine Hn_by (Exists.intro _ (And.intro (dv) ?_))
  repeat (first | refine gT ?_ | refine gF ?_ | refine brT ?_ | refine brF ?_ | refine And.intro rfl ?_)
  first | refine Exists.intro _ (And.intro (mu) ?_) | refine Hn_by (Exists.intro _ (And.intro (mu) ?_))
  repeat (first | refine gT ?_ | refine gF ?_ | refine brT ?_ | refine brF ?_ | refine And.intro rfl ?_)
  refine And.intro (Int.natCast_nonneg k) (And.intro (show (k : Int) < (N : Int) by omega) ?_)
  repeat (first | refine gT ?_ | refine gF ?_ | refine brT ?_ | refine brF ?_ | refine And.intro rfl ?_)
  obtain ⟨a,b,c,d,hr⟩:=fill_at f N k g
  refine Exists.intro _ (And.intro (show (fillQ f N k)[0 + (k : Int).toNat]? = some [a,b,c,d] by rw [Nat.zero_add,Int.toNat_natCast]; exact hr) ?_)
  refine hP (k + 1) _ (leC_by ⟨⟨rfl,rfl⟩,⟨rfl,rfl⟩,⟨rfl,rfl⟩,⟨rfl,rfl⟩,⟨int_eq ?_,rfl⟩,trivial⟩ ⟨⟨⟨?_,rfl⟩,rfl⟩,trivial⟩ (Nat.le_refl _)) g (by omega)
  ·show w64 ((k : Int) + 1) = _
   exact w64_nat (by omega) (by omega)
  ·show some (Blk.arr (34,4) ((fillQ f N k).set (0 + (k : Int).toNat) (rv (f k))) true) = _
   rw [Nat.zero_add,Int.toNat_natCast,fill_set g]
 ·have g : ¬ k < N:=fun h => g (Int.ofNat_lt.2 h)
  have ek : k = N:=by omega
  subst ek
  rw [fill_full]
  clear hP
  have hml : (((List.range k).map f).map rv).length = k:=by simp
  refine And.intro (Or.inr rfl) (And.intro (show 0 + k <= (((List.range k).map f).map rv).length by omega) ?_)
  show AV.sl (((((List.range k).map f).map rv).drop 0).take k) = _
  rw [List.drop_zero,List.take_of_length_le (by omega)]
inductive GcdR : Nat -> List Rat -> List Rat -> List Rat -> Prop
 | done {f : List Rat} : f.length <= 65 -> MonOk f -> GcdR 0 f [] (monP f)
 | step {n : Nat} {f g a r h : List Rat} : 0 < g.length -> f.length <= 65 -> g.length <= 65 -> DivR f g a r -> r.length <= 65 -> MonOk r -> GcdR n g (monP r) h -> GcdR (n + 1) f g h
theorem gcd_uni (gl : List (Nat × AV)) {n : Nat} {f g h : List Rat} (hr : GcdR n f g h) : Spec Tryz.prog gl 54 [polyV f,polyV g] (polyV h):=by
 refine spec_fn T_ok mixed_ok 0 Tryz.func54 fn_ok54 (by kernel_rfl) ?_
 refine aw_loop (fun x : Nat × List Rat × List Rat => stOf [(0,polyV x.2.1),(1,polyV x.2.2)] [] 0) (fun x => GcdR x.1 x.2.1 x.2.2 h) (fun x => x.1) (n,f,g) hr
  (le_by ⟨rfl,rfl,trivial⟩ trivial (Nat.le_refl _)) ?_
 rintro ⟨n,f,g⟩ hr P hP
 simp only at hr
 cases hr with
 | done h65 hm =>
  have m:=monic_spec gl h65 hm
  refine br (fun g => absurd (show ((0 : Nat) : Int) > 0 from g) (by decide)) (fun _ => ?_)
  clear hP
  first | refine Exists.intro _ (And.intro (m) ?_) | refine Hn_by (Exists.intro _ (And.intro (m) ?_))
  exact And.intro (Or.inr rfl) rfl
 | step h0 h1 h2 hd h3 hm hn =>
  have lg:=poly_len g
  have d:=divide_spec gl h0 h1 h2 hd
  have m:=monic_spec gl h3 hm
  refine br (fun _ => ?_) (fun g2 => absurd (show ((g.map rv).length : Int) > 0 by omega) g2)
  first | refine Exists.intro _ (And.intro (d) ?_) | refine Hn_by (Exists.intro _ (And.intro (d) ?_))
  first | refine Exists.intro _ (And.intro (m) ?_) | refine Hn_by (Exists.intro _ (And.intro (m) ?_))
  exact hP (_,_,_) _ (le_by ⟨rfl,rfl,trivial⟩ trivial (Nat.le_refl _)) hn (Nat.lt_succ_self _)
theorem GCD_spec (gl : List (Nat × AV)) {n : Nat} {p q h : List Rat} (hp : Poly p) (hq : Poly q) (hr : GcdR n p q h) : Spec Tryz.prog gl 17 [polyV p,polyV q] (.tup [polyV h,.int .i64 0]):=by
 have w:=want2 gl hp hq
 have g:=gcd_uni gl hr
 refine spec_fn T_ok mixed_ok 0 Tryz.func17 fn_ok17 (by kernel_rfl) ?_
 refine And.intro (Nat.le_refl 2) ?_
 first | refine Exists.intro _ (And.intro (w) ?_) | refine Hn_by (Exists.intro _ (And.intro (w) ?_))
 first | refine Exists.intro _ (And.intro (g) ?_) | refine Hn_by (Exists.intro _ (And.intro (g) ?_))
 exact And.intro (Or.inr rfl) rfl
end Ab
end
section
open Go Go.Proofs
namespace Ab
set_option maxRecDepth 100000
set_option maxHeartbeats 1000000
def rpow (c : Rat) : Nat -> Rat
 | 0 => 1
 | n + 1 => rpow c n * c
theorem power_uni (gl : List (Nat × AV)) {c : Rat} {n : Nat} (hn : n <= 1000000) (ok : ∀ i,i < n -> FM (rpow c i) c) : Spec Tryz.prog gl 112 [rV c,.int .i64 (n : Int)] (rV (rpow c n)):=by
 have o1 : Spec Tryz.prog gl 59 [.int .i64 1] (rV 1):=of_uni gl (n:=1) (by decide) (by decide)
 unfold rV rv at o1
 refine spec_fn T_ok mixed_ok 0 Tryz.func112 fn_ok112 (by kernel_rfl) ?_
 first | refine Exists.intro _ (And.intro (o1) ?_) | refine Hn_by (Exists.intro _ (And.intro (o1) ?_))
 refine aw_loop (fun i : Nat => stOf [(2,.bp 0 0),(4,.bp 1 0),(5,.bp 2 0),(7,.int .i64 (n : Int)),(8,.int .i64 (i : Int))] [(0,.box (rv c)),(1,.box [.bool false,.nil,.bool false,.nil]),(2,.box (rv (rpow c i)))] 3) (fun i => i <= n) (fun i => n - i) 0 (Nat.zero_le _)
  (le_by ⟨rfl,rfl,rfl,rfl,rfl,trivial⟩ ⟨rfl,rfl,rfl,trivial⟩ (Nat.le_refl _)) ?_
 intro i hi P hP
 refine br (fun g => ?_) (fun g => ?_)
 ·have g : i < n:=Int.ofNat_lt.1 g
  have m1:=mul_rat gl (ok i g)
  have m2:=must_spec gl (rpow c i * c)
  first | refine Exists.intro _ (And.intro (m1) ?_) | refine Hn_by (Exists.intro _ (And.intro (m1) ?_))
  first | refine Exists.intro _ (And.intro (m2) ?_) | refine Hn_by (Exists.intro _ (And.intro (m2) ?_))
  refine hP (i + 1) _ (le_by ⟨rfl,rfl,rfl,rfl,int_eq ?_,trivial⟩ ⟨rfl,rfl,rfl,trivial⟩ (Nat.le_refl _)) g (by omega)
  show w64 ((i : Int) + 1) = _
  exact w64_nat (by omega) (by omega)
 ·have g : ¬ i < n:=fun h => g (Int.ofNat_lt.2 h)
  have ei : i = n:=by omega
  subst ei
  clear hP
  exact And.intro (Or.inr rfl) rfl
def SgnR (m n : Nat) (w v : Rat) : Prop:=if m % 2 = 1∧n % 2 = 1 then FS 0 w∧v = 0 - w else v = w
inductive ResR : List Rat -> List Rat -> Rat -> Prop
 | const {p q : List Rat} : 0 < p.length -> p.length <= 65 -> q.length = 1 -> (∀ i,i < p.length - 1 -> FM (rpow (cf q 0) i) (cf q 0)) -> ResR p q (rpow (cf q 0) (p.length - 1))
 | swap {p q : List Rat} {w v : Rat} : 0 < p.length -> p.length < q.length -> 1 < q.length -> q.length <= 65 -> ResR q p w -> SgnR (p.length - 1) (q.length - 1) w v -> ResR p q v
 | zero {p q a : List Rat} : q.length <= p.length -> 1 < q.length -> p.length <= 65 -> DivR p q a [] -> ResR p q 0
 | step {p q a r : List Rat} {w v : Rat} : q.length <= p.length -> 1 < q.length -> p.length <= 65 -> DivR p q a r -> 0 < r.length -> r.length < q.length -> (∀ i,i < p.length - 1 - r.length + 1 -> FM (rpow (cf q (q.length - 1)) i) (cf q (q.length - 1))) ->
   ResR q r w -> FM (rpow (cf q (q.length - 1)) (p.length - 1 - r.length + 1)) w -> SgnR (p.length - 1) (q.length - 1) (rpow (cf q (q.length - 1)) (p.length - 1 - r.length + 1) * w) v -> ResR p q v
theorem odd_of {x : Int} {m : Nat} (h : x = (m : Int)) : x.tmod 2 = 1 ↔ m % 2 = 1:=by
 rw [h,Int.tmod_eq_emod_of_nonneg (Int.natCast_nonneg m)]
 omega
theorem resultant_spec (gl : List (Nat × AV)) {p q : List Rat} {v : Rat} (h : ResR p q v) : Spec Tryz.prog gl 60 [polyV p,polyV q] (rV v):=by
 induction h with
 | @const p q h0 h65 h1 ok =>
  have lp:=poly_len p
  have lq:=poly_len q
  have pw:=power_uni gl (by omega) ok
  have wm : w64 (((p.map rv).length : Int) - 1) = ((p.length - 1 : Nat) : Int):=w64_nat (by omega) (by omega)
  have wn : w64 (((q.map rv).length : Int) - 1) = 0:=by rw [lq,h1]; rfl
  refine spec_fn T_ok mixed_ok 1 Tryz.func60 fn_ok60 (by kernel_rfl) ?_
  refine brE (fun _ => ?_) (fun g => absurd wn g)
  refine And.intro (by kernel_rfl) ?_
  repeat (first | refine gT ?_ | refine gF ?_ | refine brT ?_ | refine brF ?_ | refine And.intro rfl ?_)
  refine And.intro (by decide) (Exists.intro _ (And.intro (idx_nat (i:=0) rfl (by omega)) ?_))
  repeat (first | refine gT ?_ | refine gF ?_ | refine brT ?_ | refine brF ?_ | refine And.intro rfl ?_)
  rw [<- wm] at pw
  refine Hn_by (Exists.intro _ (And.intro pw ?_))
  exact And.intro (Or.inr rfl) rfl
 | @swap p q w v h0 h1 h2 h65 hr hs ih =>
  have lp:=poly_len p
  have lq:=poly_len q
  have o0 : Spec Tryz.prog gl 59 [.int .i64 0] (rV 0):=of_uni gl (n:=0) (by decide) (by decide)
  have wm : w64 (((p.map rv).length : Int) - 1) = ((p.length - 1 : Nat) : Int):=w64_nat (by omega) (by omega)
  have wn : w64 (((q.map rv).length : Int) - 1) = ((q.length - 1 : Nat) : Int):=w64_nat (by omega) (by omega)
  refine spec_fn T_ok mixed_ok 1 Tryz.func60 fn_ok60 (by kernel_rfl) ?_
  refine brE (fun g => absurd (show w64 (((q.map rv).length : Int) - 1) = 0 from g) (by omega)) (fun _ => ?_)
  refine br (fun _ => ?_) (fun g => absurd (show w64 (((p.map rv).length : Int) - 1) < w64 (((q.map rv).length : Int) - 1) by omega) g)
  refine Hn_by (Exists.intro _ (And.intro ih ?_))
  refine Hn_in Tryz.f111 Tryz.func111 fn_ok111 (by kernel_rfl) ?_
  refine And.intro (by decide) ?_
  refine brE (fun g1 => ?_) (fun g1 => ?_)
  ·repeat (first | refine gT ?_ | refine gF ?_ | refine brT ?_ | refine brF ?_)
   refine And.intro (by decide) ?_
   repeat (first | refine gT ?_ | refine gF ?_ | refine brT ?_ | refine brF ?_)
   refine brE (fun g2 => ?_) (fun g2 => ?_)
   ·unfold SgnR at hs
    rw [if_pos ⟨(odd_of wm).1 g1,(odd_of wn).1 g2⟩] at hs
    obtain ⟨hs1,rfl⟩:=hs
    have sb:=sub_rat gl hs1
    have mu:=must_spec gl (0 - w)
    refine And.intro (by kernel_rfl) ?_
    repeat (first | refine gT ?_ | refine gF ?_ | refine brT ?_ | refine brF ?_ | refine And.intro rfl ?_)
    first | refine Exists.intro _ (And.intro (o0) ?_) | refine Hn_by (Exists.intro _ (And.intro (o0) ?_))
    repeat (first | refine gT ?_ | refine gF ?_ | refine brT ?_ | refine brF ?_ | refine And.intro rfl ?_)
    first | refine Exists.intro _ (And.intro (sb) ?_) | refine Hn_by (Exists.intro _ (And.intro (sb) ?_))
    repeat (first | refine gT ?_ | refine gF ?_ | refine brT ?_ | refine brF ?_ | refine And.intro rfl ?_)
    first | refine Exists.intro _ (And.intro (mu) ?_) | refine Hn_by (Exists.intro _ (And.intro (mu) ?_))
    repeat (first | refine gT ?_ | refine gF ?_ | refine brT ?_ | refine brF ?_ | refine And.intro rfl ?_)
    refine And.intro (Or.inr rfl) ?_
    exact And.intro (Or.inr rfl) rfl
   ·unfold SgnR at hs
    rw [if_neg (fun h => g2 ((odd_of wn).2 h.2))] at hs
    subst hs
    refine And.intro (Or.inr rfl) ?_
    exact And.intro (Or.inr rfl) rfl
  ·unfold SgnR at hs
   rw [if_neg (fun h => g1 ((odd_of wm).2 h.1))] at hs
   subst hs
   repeat (first | refine gT ?_ | refine gF ?_ | refine brT ?_ | refine brF ?_)
   refine And.intro (Or.inr rfl) ?_
   exact And.intro (Or.inr rfl) rfl
 | @zero p q a h1 h2 h65 hd =>
  have lp:=poly_len p
  have lq:=poly_len q
  have o0 : Spec Tryz.prog gl 59 [.int .i64 0] (rV 0):=of_uni gl (n:=0) (by decide) (by decide)
  have wm : w64 (((p.map rv).length : Int) - 1) = ((p.length - 1 : Nat) : Int):=w64_nat (by omega) (by omega)
  have wn : w64 (((q.map rv).length : Int) - 1) = ((q.length - 1 : Nat) : Int):=w64_nat (by omega) (by omega)
  have d:=divide_spec gl (by omega) h65 (by omega) hd
  refine spec_fn T_ok mixed_ok 1 Tryz.func60 fn_ok60 (by kernel_rfl) ?_
  refine brE (fun g => absurd (show w64 (((q.map rv).length : Int) - 1) = 0 from g) (by omega)) (fun _ => ?_)
  refine br (fun g => absurd (show w64 (((p.map rv).length : Int) - 1) < w64 (((q.map rv).length : Int) - 1) from g) (by omega)) (fun _ => ?_)
  refine Hn_by (Exists.intro _ (And.intro d ?_))
  refine brE (fun _ => ?_) (fun g => absurd rfl g)
  refine Hn_by (Exists.intro _ (And.intro o0 ?_))
  exact And.intro (Or.inr rfl) rfl
 | @step p q a r w v h1 h2 h65 hd h3 h4 ok hr hm hs ih =>
  have lp:=poly_len p
  have lq:=poly_len q
  have lr:=poly_len r
  have o0 : Spec Tryz.prog gl 59 [.int .i64 0] (rV 0):=of_uni gl (n:=0) (by decide) (by decide)
  have wm : w64 (((p.map rv).length : Int) - 1) = ((p.length - 1 : Nat) : Int):=w64_nat (by omega) (by omega)
  have wn : w64 (((q.map rv).length : Int) - 1) = ((q.length - 1 : Nat) : Int):=w64_nat (by omega) (by omega)
  have we : w64 (w64 (w64 (((p.map rv).length : Int) - 1) - ((r.map rv).length : Int)) + 1) = ((p.length - 1 - r.length + 1 : Nat) : Int):=by
   rw [wm,w64_eq (n:=((p.length - 1 : Nat) : Int) - _) (by omega)]
   exact w64_nat (by omega) (by omega)
  have d:=divide_spec gl (by omega) h65 (by omega) hd
  have pw:=power_uni gl (c:=cf q (q.length - 1)) (n:=p.length - 1 - r.length + 1) (by omega) ok
  have m1:=mul_rat gl hm
  have m2:=must_spec gl (rpow (cf q (q.length - 1)) (p.length - 1 - r.length + 1) * w)
  refine spec_fn T_ok mixed_ok 1 Tryz.func60 fn_ok60 (by kernel_rfl) ?_
  refine brE (fun g => absurd (show w64 (((q.map rv).length : Int) - 1) = 0 from g) (by omega)) (fun _ => ?_)
  refine br (fun g => absurd (show w64 (((p.map rv).length : Int) - 1) < w64 (((q.map rv).length : Int) - 1) from g) (by omega)) (fun _ => ?_)
  refine Hn_by (Exists.intro _ (And.intro d ?_))
  refine brE (fun g => absurd (show ((r.map rv).length : Int) = 0 from g) (by omega)) (fun _ => ?_)
  refine And.intro (by kernel_rfl) ?_
  repeat (first | refine gT ?_ | refine gF ?_ | refine brT ?_ | refine brF ?_ | refine And.intro rfl ?_)
  refine And.intro (show (0 : Int) <= w64 (((q.map rv).length : Int) - 1) by omega) (Exists.intro _ (And.intro (idx_nat wn (by omega)) ?_))
  repeat (first | refine gT ?_ | refine gF ?_ | refine brT ?_ | refine brF ?_ | refine And.intro rfl ?_)
  rw [<- we] at pw
  first | refine Exists.intro _ (And.intro (pw) ?_) | refine Hn_by (Exists.intro _ (And.intro (pw) ?_))
  repeat (first | refine gT ?_ | refine gF ?_ | refine brT ?_ | refine brF ?_ | refine And.intro rfl ?_)
  first | refine Exists.intro _ (And.intro (ih) ?_) | refine Hn_by (Exists.intro _ (And.intro (ih) ?_))
  repeat (first | refine gT ?_ | refine gF ?_ | refine brT ?_ | refine brF ?_ | refine And.intro rfl ?_)
  first | refine Exists.intro _ (And.intro (m1) ?_) | refine Hn_by (Exists.intro _ (And.intro (m1) ?_))
  repeat (first | refine gT ?_ | refine gF ?_ | refine brT ?_ | refine brF ?_ | refine And.intro rfl ?_)
  first | refine Exists.intro _ (And.intro (m2) ?_) | refine Hn_by (Exists.intro _ (And.intro (m2) ?_))
  repeat (first | refine gT ?_ | refine gF ?_ | refine brT ?_ | refine brF ?_ | refine And.intro rfl ?_)
  refine Hn_in Tryz.f111 Tryz.func111 fn_ok111 (by kernel_rfl) ?_
  refine And.intro (by decide) ?_
  refine brE (fun g1 => ?_) (fun g1 => ?_)
  ·repeat (first | refine gT ?_ | refine gF ?_ | refine brT ?_ | refine brF ?_)
   refine And.intro (by decide) ?_
   repeat (first | refine gT ?_ | refine gF ?_ | refine brT ?_ | refine brF ?_)
   refine brE (fun g2 => ?_) (fun g2 => ?_)
   ·unfold SgnR at hs
    rw [if_pos ⟨(odd_of wm).1 g1,(odd_of wn).1 g2⟩] at hs
    obtain ⟨hs1,rfl⟩:=hs
    have sb:=sub_rat gl hs1
    have mu:=must_spec gl (0 - (rpow (cf q (q.length - 1)) (p.length - 1 - r.length + 1) * w))
    refine And.intro (by kernel_rfl) ?_
    repeat (first | refine gT ?_ | refine gF ?_ | refine brT ?_ | refine brF ?_ | refine And.intro rfl ?_)
    first | refine Exists.intro _ (And.intro (o0) ?_) | refine Hn_by (Exists.intro _ (And.intro (o0) ?_))
    repeat (first | refine gT ?_ | refine gF ?_ | refine brT ?_ | refine brF ?_ | refine And.intro rfl ?_)
    first | refine Exists.intro _ (And.intro (sb) ?_) | refine Hn_by (Exists.intro _ (And.intro (sb) ?_))
    repeat (first | refine gT ?_ | refine gF ?_ | refine brT ?_ | refine brF ?_ | refine And.intro rfl ?_)
    first | refine Exists.intro _ (And.intro (mu) ?_) | refine Hn_by (Exists.intro _ (And.intro (mu) ?_))
    repeat (first | refine gT ?_ | refine gF ?_ | refine brT ?_ | refine brF ?_ | refine And.intro rfl ?_)
    refine And.intro (Or.inr rfl) ?_
    exact And.intro (Or.inr rfl) rfl
   ·unfold SgnR at hs
    rw [if_neg (fun h => g2 ((odd_of wn).2 h.2))] at hs
    subst hs
    refine And.intro (Or.inr rfl) ?_
    exact And.intro (Or.inr rfl) rfl
  ·unfold SgnR at hs
   rw [if_neg (fun h => g1 ((odd_of wm).2 h.1))] at hs
   subst hs
   repeat (first | refine gT ?_ | refine gF ?_ | refine brT ?_ | refine brF ?_)
   refine And.intro (Or.inr rfl) ?_
   exact And.intro (Or.inr rfl) rfl
theorem Resultant_spec (gl : List (Nat × AV)) {p q : List Rat} {v : Rat} (hp : Poly p) (hq : Poly q) (h0 : 0 < p.length) (h1 : 0 < q.length) (h : ResR p q v) : Spec Tryz.prog gl 25 [polyV p,polyV q] (.tup [rV v,.int .i64 0]):=by
 have w:=want2 gl hp hq
 have g:=resultant_spec gl h
 have lp:=poly_len p
 have lq:=poly_len q
 refine spec_fn T_ok mixed_ok 0 Tryz.func25 fn_ok25 (by kernel_rfl) ?_
 refine And.intro (Nat.le_refl 2) ?_
 first | refine Exists.intro _ (And.intro (w) ?_) | refine Hn_by (Exists.intro _ (And.intro (w) ?_))
 refine grE (fun g => absurd (show ((p.map rv).length : Int) = 0 from g) (by omega)) (fun _ => ?_)
 repeat (first | refine gT ?_ | refine gF ?_ | refine brT ?_ | refine brF ?_)
 refine brE (fun g => absurd (show ((q.map rv).length : Int) = 0 from g) (by omega)) (fun _ => ?_)
 first | refine Exists.intro _ (And.intro (g) ?_) | refine Hn_by (Exists.intro _ (And.intro (g) ?_))
 exact And.intro (Or.inr rfl) rfl
end Ab
end
