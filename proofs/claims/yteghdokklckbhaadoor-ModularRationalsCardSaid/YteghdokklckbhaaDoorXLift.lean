import Derived.Test.YteghdokklckbhaaDoorXLiftQ
import Derived.Test.YteghdokklckbhaaDoorXGe
/-!
The contracts of modular.Rat, Lift; SameInt, SameRat.
-/
open Go Go.Proofs
namespace Ab
set_option maxRecDepth 100000
set_option maxHeartbeats 1000000

theorem reduce_z {p : Int} (h : Pr p) (gl : List (Nat × AV)) {z : Int} (hz : Fits z) : Spec Tryd.prog gl 38 [mkZ z, .int .i64 p] (.int .i64 (z % p)) := by
  have s := reduce_spec gl (decide (z < 0)) (Dg.mag (az z)) p (by have := h.lo; omega) (by have := fits_len hz; omega)
  rw [reduceF_eq h (Dg.magD _), val_az, sign_az] at s
  exact s
theorem mrat_walk {p e f r : Int} {nn dn : Bool} {nl dl : List Int} (h : Pr p) (he : e ≠ 0) (s1 : Spec Tryd.prog glB4 37 [mkQ nn nl dn dl] (.bool true)) (s2 : Spec Tryd.prog glB4 38 [mkI dn dl, .int .i64 p] (.int .i64 e)) (s3 : Spec Tryd.prog glB4 38 [mkI nn nl, .int .i64 p] (.int .i64 f))
    {i : Int} (s4 : Spec Tryd.prog glB4 39 [.int .i64 e, .int .i64 p] (.int .i64 i)) (s5 : Spec Tryd.prog glB4 33 [.int .i64 f, .int .i64 i, .int .i64 p] (.int .i64 r)) :
    Spec Tryd.prog glB4 16 [mkQ nn nl dn dl, .int .i64 p] (.tup [.int .i64 r, .int .i64 0]) := by
  have s0 := prime_eq h
  refine spec_fn T_ok mixed_ok 1 Tryd.func16 fn_ok16 (by kernel_rfl) ?_
  first | refine Exists.intro _ (And.intro (s1) ?_) | refine Hn_by (Exists.intro _ (And.intro (s1) ?_))
  repeat (first | refine gT ?_ | refine gF ?_ | refine brT ?_ | refine brF ?_)
  first | refine Exists.intro _ (And.intro (s0) ?_) | refine Hn_by (Exists.intro _ (And.intro (s0) ?_))
  repeat (first | refine gT ?_ | refine gF ?_ | refine brT ?_ | refine brF ?_)
  first | refine Exists.intro _ (And.intro (s2) ?_) | refine Hn_by (Exists.intro _ (And.intro (s2) ?_))
  refine brE (fun g => absurd g he) (fun _ => ?_)
  first | refine Exists.intro _ (And.intro (s3) ?_) | refine Hn_by (Exists.intro _ (And.intro (s3) ?_))
  first | refine Exists.intro _ (And.intro (s4) ?_) | refine Hn_by (Exists.intro _ (And.intro (s4) ?_))
  first | refine Exists.intro _ (And.intro (s5) ?_) | refine Hn_by (Exists.intro _ (And.intro (s5) ?_))
  exact And.intro (Or.inr rfl) rfl
theorem mrat_spec {p : Int} (h : Pr p) {n d : Int} (hn : Fits n) (hd : Fits d) (h0 : 0 < d) (h1 : d < p) (hg : Int.gcd n d = 1) : Spec Tryd.prog glB4 16 [mkR n d, .int .i64 p] (.tup [.int .i64 (ratF p n d), .int .i64 0]) := by
  have md := h.mod d
  refine mrat_walk h (e := d % p) (by rw [Int.emod_eq_of_lt (by omega) h1]; omega) (ratvalid_int glB4 hn hd h0 hg) (reduce_z h glB4 hd) (reduce_z h glB4 hn) (inverse_eq h glB4 md) (times_eq h glB4 (h.mod n) (h.mod _))

theorem same_int (gl : List (Nat × AV)) (neg : Bool) (l : List Int) (hl : l.length ≤ 1073741824) : Spec Tryd.prog gl 41 [mkI neg l, mkI neg l] (.bool true) := by
  have ll : ((irows .u32 l).length : Int) = l.length := by rw [irows_len]
  cases neg <;>
  · refine spec_fn T_ok mixed_ok 1 Tryd.func41 fn_ok41 (by kernel_rfl) ?_
    repeat (first | refine gT ?_ | refine gF ?_ | refine brT ?_ | refine brF ?_)
    refine brN (fun g => absurd rfl g) (fun _ => ?_)
    refine aw_loop (fun i : Nat => stOf [(2, .bp 0 0), (3, .bp 1 0), (5, .int .i64 (i : Int))] [(0, .box [.bool _, lim l]), (1, .box [.bool _, lim l])] 2) (fun i => i ≤ l.length) (fun i => l.length - i) 0 (Nat.zero_le _)
      (le_by ⟨rfl, rfl, rfl, trivial⟩ ⟨rfl, rfl, trivial⟩ (Nat.le_refl _)) ?_
    intro i hi P hP
    refine br (fun h3 => ?_) (fun h3 => ?_)
    · have hil : i < l.length := by have : (i : Int) < ((irows .u32 l).length : Int) := h3; omega
      have ix : (irows .u32 l)[((i : Int)).toNat]? = some [.int .u32 (l.getD i 0)] := irows_at (getD_some hil)
      have hw2 : w64 ((i : Int) + 1) = ((i + 1 : Nat) : Int) := by rw [w64_eq (by omega)]; omega
      refine And.intro (by kernel_rfl) ?_
      repeat (first | refine gT ?_ | refine gF ?_ | refine brT ?_ | refine brF ?_ | refine And.intro rfl ?_)
      refine And.intro (show (0 : Int) ≤ (i : Int) by omega) (Exists.intro _ (And.intro ix ?_))
      repeat (first | refine gT ?_ | refine gF ?_ | refine brT ?_ | refine brF ?_ | refine And.intro rfl ?_)
      refine And.intro (show (0 : Int) ≤ (i : Int) by omega) (Exists.intro _ (And.intro ix ?_))
      repeat (first | refine gT ?_ | refine gF ?_ | refine brT ?_ | refine brF ?_ | refine And.intro rfl ?_)
      refine brN (fun g => absurd rfl g) (fun _ => ?_)
      exact hP (i + 1) _ (le_by ⟨rfl, rfl, int_eq hw2, trivial⟩ ⟨rfl, rfl, trivial⟩ (Nat.le_refl _)) hil (by omega)
    · clear hP
      exact And.intro (Or.inr rfl) rfl
theorem same_rat (gl : List (Nat × AV)) {nn dn : Bool} {nl dl : List Int} (hn : nl.length ≤ 1073741824) (hd : dl.length ≤ 1073741824) : Spec Tryd.prog gl 18 [mkQ nn nl dn dl, mkQ nn nl dn dl] (.bool true) := by
  have s1 := same_int gl nn nl hn
  have s2 := same_int gl dn dl hd
  refine spec_fn T_ok mixed_ok 1 Tryd.func18 fn_ok18 (by kernel_rfl) ?_
  first | refine Exists.intro _ (And.intro (s1) ?_) | refine Hn_by (Exists.intro _ (And.intro (s1) ?_))
  first | refine Exists.intro _ (And.intro (s2) ?_) | refine Hn_by (Exists.intro _ (And.intro (s2) ?_))
  repeat (first | refine gT ?_ | refine gF ?_ | refine brT ?_ | refine brF ?_)
  exact And.intro (Or.inr rfl) rfl

theorem lq_arith {p a : Int} (hp : 0 < p) (hi : p ≤ 2147483647) {s : LQ} (h : s.Inv p a) (hc : s.cond p) : s.n ≠ 0 ∧ w64 (s.r - w64 (w64 (s.r.tdiv s.n) * s.n)) = s.nxt.n ∧ w64 (s.t - w64 (w64 (s.r.tdiv s.n) * s.d)) = s.nxt.d := by
  have n0 := LQ.cond_pos hp h.eu.n0 hc
  have N := h.nxt hp hc
  have nr := h.eu.nr
  have r1 := h.r1
  have q0 : 0 ≤ s.r / s.n := Int.ediv_nonneg (by omega) (by omega)
  have q1 : s.r / s.n ≤ s.r := Int.ediv_le_self _ (by omega)
  have e0 : w64 (s.r.tdiv s.n) = s.r / s.n := by rw [Int.tdiv_eq_ediv_of_nonneg (by omega), w64_eq (n := s.r / s.n) (by omega)]
  have m0 : 0 ≤ s.r / s.n * s.n := Int.mul_nonneg q0 (by omega)
  have m1 := Int.ediv_mul_le s.r (show s.n ≠ 0 by omega)
  have b1 := N.eu.nr
  have b2 := N.eu.n0
  have b3 := eu_bd hp N.eu
  have t1 := h.t1
  have t2 := h.t2
  have e1 : s.nxt.n = s.r - s.r / s.n * s.n := rfl
  have e2 : s.nxt.d = s.t - s.r / s.n * s.d := rfl
  rw [e2] at b3
  refine ⟨by omega, ?_, ?_⟩
  · rw [e0, w64_eq (n := s.r / s.n * s.n) (by omega), w64_eq (n := s.r - s.r / s.n * s.n) (by omega), e1]
  · rw [e0, w64_eq (n := s.r / s.n * s.d) (by omega), w64_eq (n := s.t - s.r / s.n * s.d) (by omega), e2]
theorem sq_arith {n : Int} (h0 : 0 ≤ n) (h1 : n ≤ 65536) : w64 (w64 (2 * n) * n) = 2 * n * n := by
  have m0 : 0 ≤ 2 * n * n := Int.mul_nonneg (by omega) h0
  have m1 : 2 * n * n ≤ 131072 * 65536 := Int.mul_le_mul (by omega) h1 h0 (by decide)
  rw [w64_eq (n := 2 * n) (by omega), w64_eq (n := 2 * n * n) (by omega)]

theorem lift_no {p a b : Int} {S : LQ} (h : Pr p) (s1 : Spec Tryd.prog glB4 40 [.int .i64 a, .int .i64 p] (.int .i64 b)) (hi : LQ.Inv p b ⟨p, b, 0, 1⟩) (hto : LQ.To p ⟨p, b, 0, 1⟩ S) {n' d' : Int} (hneg : S.d < 0 → w64 (0 - S.n) = n' ∧ w64 (0 - S.d) = d') (hpos : ¬ S.d < 0 → S.n = n' ∧ S.d = d') (hd0 : 0 ≤ d')
    (hb : d' > 65536 ∨ 2 * d' * d' ≥ p) : Spec Tryd.prog glB4 17 [.int .i64 a, .int .i64 p] (.tup [mkQ false [] false [], .bool false, .int .i64 0]) := by
  have s0 := prime_eq h
  have hp : 0 < p := by have := h.lo; omega
  refine spec_fn T_ok mixed_ok 1 Tryd.func17 fn_ok17 (by kernel_rfl) ?_
  first | refine Exists.intro _ (And.intro (s0) ?_) | refine Hn_by (Exists.intro _ (And.intro (s0) ?_))
  repeat (first | refine gT ?_ | refine gF ?_ | refine brT ?_ | refine brF ?_)
  first | refine Exists.intro _ (And.intro (s1) ?_) | refine Hn_by (Exists.intro _ (And.intro (s1) ?_))
  refine aw_loop (fun s : LQ => stOf [(1, .int .i64 p), (4, .bp 0 0), (7, .int .i64 s.r), (8, .int .i64 s.n), (9, .int .i64 s.t), (10, .int .i64 s.d)] [(0, .box [.bool false, .nil, .bool false, .nil])] 1)
    (fun s => s.Inv p b ∧ LQ.To p s S) (fun s => s.n.toNat) ⟨p, b, 0, 1⟩ ⟨hi, hto⟩ (le_by ⟨rfl, rfl, rfl, rfl, rfl, rfl, trivial⟩ ⟨rfl, trivial⟩ (Nat.le_refl _)) ?_
  rintro s ⟨hs, hst⟩ P hP
  have go : s.cond p → s.nxt.Inv p b ∧ LQ.To p s.nxt S := fun hc => ⟨hs.nxt hp hc, by cases hst with | stop g => exact absurd hc g | go _ g => exact g⟩
  have n0 := hs.eu.n0
  refine gr (fun h1 => ?_) (fun h1 => ?_)
  · have hc : s.cond p := Or.inl h1
    obtain ⟨a0, a1, a2⟩ := lq_arith hp h.hi hs hc
    repeat (first | refine gT ?_ | refine gF ?_ | refine brT ?_ | refine brF ?_)
    refine And.intro a0 ?_
    repeat (first | refine gT ?_ | refine gF ?_ | refine brT ?_ | refine brF ?_)
    exact hP s.nxt _ (le_by ⟨rfl, rfl, rfl, int_eq a1, rfl, int_eq a2, trivial⟩ ⟨rfl, trivial⟩ (Nat.le_refl _)) (go hc) (LQ.nxt_lt hp hs hc)
  · have hn1 : s.n ≤ 65536 := by have : ¬ s.n > 65536 := h1; omega
    have sq := sq_arith n0 hn1
    repeat (first | refine gT ?_ | refine gF ?_ | refine brT ?_ | refine brF ?_)
    refine br (fun h2 => ?_) (fun h2 => ?_)
    · have hc : s.cond p := Or.inr (by rw [← sq]; exact h2)
      obtain ⟨a0, a1, a2⟩ := lq_arith hp h.hi hs hc
      repeat (first | refine gT ?_ | refine gF ?_ | refine brT ?_ | refine brF ?_)
      refine And.intro a0 ?_
      repeat (first | refine gT ?_ | refine gF ?_ | refine brT ?_ | refine brF ?_)
      exact hP s.nxt _ (le_by ⟨rfl, rfl, rfl, int_eq a1, rfl, int_eq a2, trivial⟩ ⟨rfl, trivial⟩ (Nat.le_refl _)) (go hc) (LQ.nxt_lt hp hs hc)
    · clear hP go
      have hc : ¬ s.cond p := fun g => by
        rcases g with g | g
        · exact h1 g
        · rw [← sq] at g; exact h2 g
      obtain rfl : s = S := by cases hst with | stop _ => rfl | go g _ => exact absurd g hc
      refine br (fun h3 => ?_) (fun h3 => ?_)
      · obtain ⟨en, ed⟩ := hneg h3
        refine gr (fun h4 => ?_) (fun h4 => ?_)
        · have h4' : d' > 65536 := by rw [← ed]; exact h4
          repeat (first | refine gT ?_ | refine gF ?_ | refine brT ?_ | refine brF ?_)
          exact And.intro (Or.inr rfl) rfl
        · have h4' : ¬ d' > 65536 := by rw [← ed]; exact h4
          have sq2 := sq_arith (n := d') hd0 (by omega)
          repeat (first | refine gT ?_ | refine gF ?_ | refine brT ?_ | refine brF ?_)
          refine br (fun h5 => ?_) (fun h5 => ?_)
          · have h5' : 2 * d' * d' ≥ p := by rw [← sq2, ← ed]; exact h5
            exact And.intro (Or.inr rfl) rfl
          · have h5' : ¬ 2 * d' * d' ≥ p := by rw [← sq2, ← ed]; exact h5
            exact absurd hb (fun g => g.elim h4' h5')
      · obtain ⟨en, ed⟩ := hpos h3
        refine gr (fun h4 => ?_) (fun h4 => ?_)
        · have h4' : d' > 65536 := by rw [← ed]; exact h4
          repeat (first | refine gT ?_ | refine gF ?_ | refine brT ?_ | refine brF ?_)
          exact And.intro (Or.inr rfl) rfl
        · have h4' : ¬ d' > 65536 := by rw [← ed]; exact h4
          have sq2 := sq_arith (n := d') hd0 (by omega)
          repeat (first | refine gT ?_ | refine gF ?_ | refine brT ?_ | refine brF ?_)
          refine br (fun h5 => ?_) (fun h5 => ?_)
          · have h5' : 2 * d' * d' ≥ p := by rw [← sq2, ← ed]; exact h5
            exact And.intro (Or.inr rfl) rfl
          · have h5' : ¬ 2 * d' * d' ≥ p := by rw [← sq2, ← ed]; exact h5
            exact absurd hb (fun g => g.elim h4' h5')

theorem lift_yes {p a b : Int} {S : LQ} (h : Pr p) (s1 : Spec Tryd.prog glB4 40 [.int .i64 a, .int .i64 p] (.int .i64 b)) (hi : LQ.Inv p b ⟨p, b, 0, 1⟩) (hto : LQ.To p ⟨p, b, 0, 1⟩ S) {n' d' : Int} (hneg : S.d < 0 → w64 (0 - S.n) = n' ∧ w64 (0 - S.d) = d') (hpos : ¬ S.d < 0 → S.n = n' ∧ S.d = d') (hd0 : 0 ≤ d')
    (hb1 : ¬ d' > 65536) (hb2 : ¬ 2 * d' * d' ≥ p) {nn dn : Bool} {nl dl : List Int} (ho : Spec Tryd.prog glB4 15 [.int .i64 n', .int .i64 d'] (.tup [mkQ nn nl dn dl, .int .i64 0])) : Spec Tryd.prog glB4 17 [.int .i64 a, .int .i64 p] (.tup [mkQ nn nl dn dl, .bool true, .int .i64 0]) := by
  have s0 := prime_eq h
  have hp : 0 < p := by have := h.lo; omega
  refine spec_fn T_ok mixed_ok 1 Tryd.func17 fn_ok17 (by kernel_rfl) ?_
  first | refine Exists.intro _ (And.intro (s0) ?_) | refine Hn_by (Exists.intro _ (And.intro (s0) ?_))
  repeat (first | refine gT ?_ | refine gF ?_ | refine brT ?_ | refine brF ?_)
  first | refine Exists.intro _ (And.intro (s1) ?_) | refine Hn_by (Exists.intro _ (And.intro (s1) ?_))
  refine aw_loop (fun s : LQ => stOf [(1, .int .i64 p), (4, .bp 0 0), (7, .int .i64 s.r), (8, .int .i64 s.n), (9, .int .i64 s.t), (10, .int .i64 s.d)] [(0, .box [.bool false, .nil, .bool false, .nil])] 1)
    (fun s => s.Inv p b ∧ LQ.To p s S) (fun s => s.n.toNat) ⟨p, b, 0, 1⟩ ⟨hi, hto⟩ (le_by ⟨rfl, rfl, rfl, rfl, rfl, rfl, trivial⟩ ⟨rfl, trivial⟩ (Nat.le_refl _)) ?_
  rintro s ⟨hs, hst⟩ P hP
  have go : s.cond p → s.nxt.Inv p b ∧ LQ.To p s.nxt S := fun hc => ⟨hs.nxt hp hc, by cases hst with | stop g => exact absurd hc g | go _ g => exact g⟩
  have n0 := hs.eu.n0
  refine gr (fun h1 => ?_) (fun h1 => ?_)
  · have hc : s.cond p := Or.inl h1
    obtain ⟨a0, a1, a2⟩ := lq_arith hp h.hi hs hc
    repeat (first | refine gT ?_ | refine gF ?_ | refine brT ?_ | refine brF ?_)
    refine And.intro a0 ?_
    repeat (first | refine gT ?_ | refine gF ?_ | refine brT ?_ | refine brF ?_)
    exact hP s.nxt _ (le_by ⟨rfl, rfl, rfl, int_eq a1, rfl, int_eq a2, trivial⟩ ⟨rfl, trivial⟩ (Nat.le_refl _)) (go hc) (LQ.nxt_lt hp hs hc)
  · have hn1 : s.n ≤ 65536 := by have : ¬ s.n > 65536 := h1; omega
    have sq := sq_arith n0 hn1
    repeat (first | refine gT ?_ | refine gF ?_ | refine brT ?_ | refine brF ?_)
    refine br (fun h2 => ?_) (fun h2 => ?_)
    · have hc : s.cond p := Or.inr (by rw [← sq]; exact h2)
      obtain ⟨a0, a1, a2⟩ := lq_arith hp h.hi hs hc
      repeat (first | refine gT ?_ | refine gF ?_ | refine brT ?_ | refine brF ?_)
      refine And.intro a0 ?_
      repeat (first | refine gT ?_ | refine gF ?_ | refine brT ?_ | refine brF ?_)
      exact hP s.nxt _ (le_by ⟨rfl, rfl, rfl, int_eq a1, rfl, int_eq a2, trivial⟩ ⟨rfl, trivial⟩ (Nat.le_refl _)) (go hc) (LQ.nxt_lt hp hs hc)
    · clear hP go
      have hc : ¬ s.cond p := fun g => by
        rcases g with g | g
        · exact h1 g
        · rw [← sq] at g; exact h2 g
      obtain rfl : s = S := by cases hst with | stop _ => rfl | go g _ => exact absurd g hc
      refine br (fun h3 => ?_) (fun h3 => ?_)
      · obtain ⟨en, ed⟩ := hneg h3
        refine gr (fun h4 => ?_) (fun h4 => ?_)
        · have h4' : d' > 65536 := by rw [← ed]; exact h4
          repeat (first | refine gT ?_ | refine gF ?_ | refine brT ?_ | refine brF ?_)
          exact absurd h4' hb1
        · have h4' : ¬ d' > 65536 := by rw [← ed]; exact h4
          have sq2 := sq_arith (n := d') hd0 (by omega)
          repeat (first | refine gT ?_ | refine gF ?_ | refine brT ?_ | refine brF ?_)
          refine br (fun h5 => ?_) (fun h5 => ?_)
          · have h5' : 2 * d' * d' ≥ p := by rw [← sq2, ← ed]; exact h5
            exact absurd h5' hb2
          · have h5' : ¬ 2 * d' * d' ≥ p := by rw [← sq2, ← ed]; exact h5
            have ho' : Spec Tryd.prog glB4 15 [.int .i64 (w64 (0 - s.n)), .int .i64 (w64 (0 - s.d))] (.tup [mkQ nn nl dn dl, .int .i64 0]) := by rw [en, ed]; exact ho
            first | refine Exists.intro _ (And.intro (ho') ?_) | refine Hn_by (Exists.intro _ (And.intro (ho') ?_))
            exact And.intro (Or.inr rfl) rfl
      · obtain ⟨en, ed⟩ := hpos h3
        refine gr (fun h4 => ?_) (fun h4 => ?_)
        · have h4' : d' > 65536 := by rw [← ed]; exact h4
          repeat (first | refine gT ?_ | refine gF ?_ | refine brT ?_ | refine brF ?_)
          exact absurd h4' hb1
        · have h4' : ¬ d' > 65536 := by rw [← ed]; exact h4
          have sq2 := sq_arith (n := d') hd0 (by omega)
          repeat (first | refine gT ?_ | refine gF ?_ | refine brT ?_ | refine brF ?_)
          refine br (fun h5 => ?_) (fun h5 => ?_)
          · have h5' : 2 * d' * d' ≥ p := by rw [← sq2, ← ed]; exact h5
            exact absurd h5' hb2
          · have h5' : ¬ 2 * d' * d' ≥ p := by rw [← sq2, ← ed]; exact h5
            have ho' : Spec Tryd.prog glB4 15 [.int .i64 s.n, .int .i64 s.d] (.tup [mkQ nn nl dn dl, .int .i64 0]) := by rw [en, ed]; exact ho
            first | refine Exists.intro _ (And.intro (ho') ?_) | refine Hn_by (Exists.intro _ (And.intro (ho') ?_))
            exact And.intro (Or.inr rfl) rfl

end Ab
