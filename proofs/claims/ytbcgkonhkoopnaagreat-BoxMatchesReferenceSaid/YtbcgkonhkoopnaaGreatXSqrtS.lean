import Derived.Test.YtbcgkonhkoopnaaGreatXGw
import Derived.Test.YtbcgkonhkoopnaaGreatXOrder
open Go Go.Proofs
namespace Ab
set_option maxRecDepth 100000
set_option maxHeartbeats 1000000
def Tiny (s : Sp) : Prop := (0 <= s.lo ∧ s.lo <= 35184372088832) ∧ 0 <= s.hi ∧ s.hi <= 35184372088832
theorem tiny {x y : Int} (hx : Sm x) (hy : Sm y) (h : x ≠ 0 ∨ y ≠ 0) : Tiny (reF x y) ∧ Tiny (imF x y) := by
 have B := bnd hx hy h
 have a : (pLo x y : Int) <= 17592186044416 := by have := B.pl.2; have := B.ph; omega
 have b : (pHi x y : Int) <= 17592186044416 := by have := B.ph; omega
 have c : (qLo x y : Int) <= 35184372088832 := by
  have h1 : qLo x y <= pLo x y + 2 := B.qh
  omega
 have d : (qHi x y : Int) <= 35184372088832 := by
  have h1 : qHi x y <= y.natAbs * 8388608 / pLo x y + 1 := by
   unfold qHi
   rw [up_div B.pl.1]
   split <;> omega
  have h2 := B.ql
  omega
 have a0 : (0 : Int) <= pLo x y := Int.natCast_nonneg _
 have b0 : (0 : Int) <= pHi x y := Int.natCast_nonneg _
 have c0 : (0 : Int) <= qLo x y := Int.natCast_nonneg _
 have d0 : (0 : Int) <= qHi x y := Int.natCast_nonneg _
 unfold reF imF Tiny
 split <;> (simp only; omega)
theorem neg_tiny {z : Int} (h0 : 0 <= z) (h1 : z <= 35184372088832) : w64 (0 - z) = -z := by rw [w64_eq (by omega)]; omega
theorem right_spec (x : Bx) (hx : Vb x) (h : 0 < x.a) : Spec Tryz.prog [] 48 [x.av] (rightF x).av := by
 obtain ⟨sa, sb, sc, sd⟩ := hx.sm
 have sb0 : x.b ≠ 0 := by have := hx.2.1; omega
 have sn : Sm (mx (mx x.c (-x.d)) 0) := by unfold Sm mx at *; (repeat' split) <;> omega
 have sf : Sm (mx x.d (-x.c)) := by unfold Sm mx at *; (repeat' split) <;> omega
 have s1 := parts_spec x.a _ sa sn (.inl (by omega))
 have s2 := parts_spec x.b _ sb sf (.inl sb0)
 rw [<- neg_sm sd] at s1
 rw [<- neg_sm sc] at s2
 have t3 := tiny sa sc (.inl (by omega))
 have t6 := tiny sb sd (.inl sb0)
 refine right_walk x.a x.b x.c x.d x.w _ _ _ _ _ _ _ _ _ _ _ _ s1 s2 (parts_spec x.a x.d sa sd (.inl (by omega))) (parts_spec x.b x.d sb sd (.inl sb0)) (parts_spec x.a x.c sa sc (.inl (by omega))) (parts_spec x.b x.c sb sc (.inl sb0)) (rightF x) ?_ ?_ ?_ ?_
 ·intro e1 e2
  unfold rightF
  rw [if_pos e2, if_pos e1, neg_tiny t3.2.2.1 t3.2.2.2, neg_sm sd, neg_sm sc]
 ·intro e1 e2
  unfold rightF
  rw [if_neg e2, if_pos e1, neg_sm sd, neg_sm sc]
 ·intro e1 e2
  unfold rightF
  rw [if_pos e2, if_neg e1, neg_tiny t3.2.2.1 t3.2.2.2, neg_tiny t6.2.1.1 t6.2.1.2, neg_sm sd, neg_sm sc]
 ·intro e1 e2
  unfold rightF
  rw [if_neg e2, if_neg e1, neg_tiny t6.2.1.1 t6.2.1.2, neg_sm sd, neg_sm sc]
theorem upper_spec (x : Bx) (hx : Vb x) (h : 0 < x.c) : Spec Tryz.prog [] 50 [x.av] (upperF x).av := by
 obtain ⟨sa, sb, sc, sd⟩ := hx.sm
 have sd0 : x.d ≠ 0 := by have := hx.2.2.1; omega
 exact upper_walk x.a x.b x.c x.d x.w _ _ _ _ _ _ _ _ (parts_spec x.a x.c sa sc (.inr (by omega))) (parts_spec x.b x.d sb sd (.inr sd0)) (parts_spec x.b x.c sb sc (.inr (by omega))) (parts_spec x.a x.d sa sd (.inr sd0))
def zeroB : Bx := ⟨0, 0, 0, 0, false⟩
def ngB (x : Bx) : Bx := ⟨-x.b, -x.a, -x.d, -x.c, false⟩
def rootF (x : Bx) : Bx := if 0 < x.a then rightF x else if x.b < 0 then rotF (rightF (ngB x)) else if 0 < x.c then upperF x else conjF (upperF (conjF x))
theorem ngB_vb {x : Bx} (h : Vb x) : Vb (ngB x) := (neg_vb h).2
theorem conj_vb {x : Bx} (h : Vb x) : Vb (conjF x) := by
 obtain ⟨_, h1, h2, h3, h4, h5, h6⟩ := h
 unfold conjF Vb
 simp only
 refine ⟨trivial, h1, ?_, h3, h4, ?_, ?_⟩ <;> omega
theorem right_tiny {x : Bx} (hx : Vb x) (h : 0 < x.a) : (0 <= (rightF x).a ∧ (rightF x).a <= 35184372088832) ∧ (0 <= (rightF x).b ∧ (rightF x).b <= 35184372088832) ∧ (-35184372088832 <= (rightF x).c ∧ (rightF x).c <= 35184372088832) ∧ (-35184372088832 <= (rightF x).d ∧ (rightF x).d <= 35184372088832) := by
 obtain ⟨sa, sb, sc, sd⟩ := hx.sm
 have sb0 : x.b ≠ 0 := by have := hx.2.1; omega
 have sn : Sm (mx (mx x.c (-x.d)) 0) := by unfold Sm mx at *; (repeat' split) <;> omega
 have sf : Sm (mx x.d (-x.c)) := by unfold Sm mx at *; (repeat' split) <;> omega
 have t1 := (tiny sa sn (.inl (by omega))).1
 have t2 := (tiny sb sf (.inl sb0)).1
 have t3 := (tiny sa sc (.inl (by omega))).2
 have t4 := (tiny sb sc (.inl sb0)).2
 have t5 := (tiny sa sd (.inl (by omega))).2
 have t6 := (tiny sb sd (.inl sb0)).2
 unfold Tiny at *
 unfold rightF
 simp only
 refine ⟨t1.1, t2.2, ?_, ?_⟩ <;> split <;> omega
theorem upper_tiny {x : Bx} (hx : Vb x) (h : 0 < x.c) : (0 <= (upperF x).a ∧ (upperF x).a <= 35184372088832) ∧ (0 <= (upperF x).b ∧ (upperF x).b <= 35184372088832) ∧ (0 <= (upperF x).c ∧ (upperF x).c <= 35184372088832) ∧ (0 <= (upperF x).d ∧ (upperF x).d <= 35184372088832) := by
 obtain ⟨sa, sb, sc, sd⟩ := hx.sm
 have sd0 : x.d ≠ 0 := by have := hx.2.2.1; omega
 have t1 := (tiny sa sc (.inr (by omega))).1
 have t2 := (tiny sb sd (.inr sd0)).1
 have t3 := (tiny sb sc (.inr (by omega))).2
 have t4 := (tiny sa sd (.inr sd0)).2
 exact ⟨t1.1, t2.2, t3.1, t4.2⟩
theorem sqrt_no (x : Bx) (h : meetsF x zeroB = true) : Spec Tryz.prog [] 15 [x.av] (.tup [zeroB.av, .bool false]) := by
 have s : Spec Tryz.prog [] 17 [x.av] (.bool true) := h ▸ zero_spec x
 obtain ⟨a, b, c, d, w⟩ := x
 refine spec_fn T_ok mixed_ok 1 Tryz.func15 fn_ok15 (by kernel_rfl) ?_
 first | refine Exists.intro _ (And.intro (s) ?_) | refine Hn_by (Exists.intro _ (And.intro (s) ?_))
 repeat (first | refine gT ?_ | refine gF ?_ | refine brT ?_ | refine brF ?_)
 exact And.intro (Or.inr rfl) rfl
theorem sqrt_right_walk (x r : Bx) (s : Spec Tryz.prog [] 17 [x.av] (.bool false)) (h : 0 < x.a) (s2 : Spec Tryz.prog [] 48 [x.av] r.av) : Spec Tryz.prog [] 15 [x.av] (.tup [r.av, .bool true]) := by
 obtain ⟨a, b, c, d, w⟩ := x
 obtain ⟨ra, rb, rc, rd, rw⟩ := r
 refine spec_fn T_ok mixed_ok 1 Tryz.func15 fn_ok15 (by kernel_rfl) ?_
 first | refine Exists.intro _ (And.intro (s) ?_) | refine Hn_by (Exists.intro _ (And.intro (s) ?_))
 repeat (first | refine gT ?_ | refine gF ?_ | refine brT ?_ | refine brF ?_)
 refine br (fun _ => ?_) (fun g => absurd h g)
 first | refine Exists.intro _ (And.intro (s2) ?_) | refine Hn_by (Exists.intro _ (And.intro (s2) ?_))
 exact And.intro (Or.inr rfl) rfl
theorem sqrt_left_walk (x n r : Bx) (s : Spec Tryz.prog [] 17 [x.av] (.bool false)) (h : ¬ 0 < x.a) (h2 : x.b < 0) (s1 : Spec Tryz.prog [] 49 [x.av] n.av) (s2 : Spec Tryz.prog [] 48 [n.av] r.av) : Spec Tryz.prog [] 15 [x.av] (.tup [Bx.av ⟨w64 (0 - r.d), w64 (0 - r.c), r.a, r.b, false⟩, .bool true]) := by
 obtain ⟨a, b, c, d, w⟩ := x
 obtain ⟨na, nb, nc, nd, nw⟩ := n
 obtain ⟨ra, rb, rc, rd, rw⟩ := r
 refine spec_fn T_ok mixed_ok 1 Tryz.func15 fn_ok15 (by kernel_rfl) ?_
 first | refine Exists.intro _ (And.intro (s) ?_) | refine Hn_by (Exists.intro _ (And.intro (s) ?_))
 repeat (first | refine gT ?_ | refine gF ?_ | refine brT ?_ | refine brF ?_)
 refine br (fun g => absurd g h) (fun _ => ?_)
 refine br (fun _ => ?_) (fun g => absurd h2 g)
 first | refine Exists.intro _ (And.intro (s1) ?_) | refine Hn_by (Exists.intro _ (And.intro (s1) ?_))
 first | refine Exists.intro _ (And.intro (s2) ?_) | refine Hn_by (Exists.intro _ (And.intro (s2) ?_))
 exact And.intro (Or.inr rfl) rfl
theorem sqrt_upper_walk (x r : Bx) (s : Spec Tryz.prog [] 17 [x.av] (.bool false)) (h : ¬ 0 < x.a) (h2 : ¬ x.b < 0) (h3 : 0 < x.c) (s2 : Spec Tryz.prog [] 50 [x.av] r.av) : Spec Tryz.prog [] 15 [x.av] (.tup [r.av, .bool true]) := by
 obtain ⟨a, b, c, d, w⟩ := x
 obtain ⟨ra, rb, rc, rd, rw⟩ := r
 refine spec_fn T_ok mixed_ok 1 Tryz.func15 fn_ok15 (by kernel_rfl) ?_
 first | refine Exists.intro _ (And.intro (s) ?_) | refine Hn_by (Exists.intro _ (And.intro (s) ?_))
 repeat (first | refine gT ?_ | refine gF ?_ | refine brT ?_ | refine brF ?_)
 refine br (fun g => absurd g h) (fun _ => ?_)
 refine br (fun g => absurd g h2) (fun _ => ?_)
 refine br (fun _ => ?_) (fun g => absurd h3 g)
 first | refine Exists.intro _ (And.intro (s2) ?_) | refine Hn_by (Exists.intro _ (And.intro (s2) ?_))
 exact And.intro (Or.inr rfl) rfl
theorem sqrt_lower_walk (x n m r : Bx) (s : Spec Tryz.prog [] 17 [x.av] (.bool false)) (h : ¬ 0 < x.a) (h2 : ¬ x.b < 0) (h3 : ¬ 0 < x.c) (s1 : Spec Tryz.prog [] 51 [x.av] n.av) (s2 : Spec Tryz.prog [] 50 [n.av] m.av) (s3 : Spec Tryz.prog [] 51 [m.av] r.av) : Spec Tryz.prog [] 15 [x.av] (.tup [r.av, .bool true]) := by
 obtain ⟨a, b, c, d, w⟩ := x
 obtain ⟨na, nb, nc, nd, nw⟩ := n
 obtain ⟨ma, mb, mc, md, mw⟩ := m
 obtain ⟨ra, rb, rc, rd, rw⟩ := r
 refine spec_fn T_ok mixed_ok 1 Tryz.func15 fn_ok15 (by kernel_rfl) ?_
 first | refine Exists.intro _ (And.intro (s) ?_) | refine Hn_by (Exists.intro _ (And.intro (s) ?_))
 repeat (first | refine gT ?_ | refine gF ?_ | refine brT ?_ | refine brF ?_)
 refine br (fun g => absurd g h) (fun _ => ?_)
 refine br (fun g => absurd g h2) (fun _ => ?_)
 refine br (fun g => absurd g h3) (fun _ => ?_)
 first | refine Exists.intro _ (And.intro (s1) ?_) | refine Hn_by (Exists.intro _ (And.intro (s1) ?_))
 first | refine Exists.intro _ (And.intro (s2) ?_) | refine Hn_by (Exists.intro _ (And.intro (s2) ?_))
 first | refine Exists.intro _ (And.intro (s3) ?_) | refine Hn_by (Exists.intro _ (And.intro (s3) ?_))
 exact And.intro (Or.inr rfl) rfl
theorem sqrt_yes (x : Bx) (hx : Vb x) (h : meetsF x zeroB = false) : Spec Tryz.prog [] 15 [x.av] (.tup [(rootF x).av, .bool true]) := by
 have s : Spec Tryz.prog [] 17 [x.av] (.bool false) := h ▸ zero_spec x
 have hz : ¬ (x.a <= 0 ∧ 0 <= x.b ∧ x.c <= 0 ∧ 0 <= x.d) := by
  intro g
  have := (meets_vb hx zero_vb).2 g
  rw [show (⟨0, 0, 0, 0, false⟩ : Bx) = zeroB from rfl, h] at this
  cases this
 obtain ⟨sa, sb, sc, sd⟩ := hx.sm
 unfold rootF
 by_cases h1 : 0 < x.a
 ·rw [if_pos h1]
  exact sqrt_right_walk x _ s h1 (right_spec x hx h1)
 ·rw [if_neg h1]
  by_cases h2 : x.b < 0
  ·rw [if_pos h2]
   have hn := ngB_vb hx
   have ha : 0 < (ngB x).a := by show 0 < -x.b; omega
   have s1 : Spec Tryz.prog [] 49 [x.av] (ngB x).av := by
      have := negated_spec x.a x.b x.c x.d x.w
      rw [neg_sm sa, neg_sm sb, neg_sm sc, neg_sm sd] at this
      exact this
   have t := right_tiny hn ha
   have w := sqrt_left_walk x _ _ s h1 h2 s1 (right_spec (ngB x) hn ha)
   rw [show w64 (0 - (rightF (ngB x)).d) = -(rightF (ngB x)).d by rw [w64_eq (by omega)]; omega, show w64 (0 - (rightF (ngB x)).c) = -(rightF (ngB x)).c by rw [w64_eq (by omega)]; omega] at w
   exact w
  ·rw [if_neg h2]
   by_cases h3 : 0 < x.c
   ·rw [if_pos h3]
    exact sqrt_upper_walk x _ s h1 h2 h3 (upper_spec x hx h3)
   ·rw [if_neg h3]
    have hc := conj_vb hx
    have hcc : 0 < (conjF x).c := by show 0 < -x.d; omega
    have s1 : Spec Tryz.prog [] 51 [x.av] (conjF x).av := by
       have := conj_spec x.a x.b x.c x.d x.w
       rw [neg_sm sc, neg_sm sd] at this
       exact this
    have t := upper_tiny hc hcc
    have s3 : Spec Tryz.prog [] 51 [(upperF (conjF x)).av] (conjF (upperF (conjF x))).av := by
       have := conj_spec (upperF (conjF x)).a (upperF (conjF x)).b (upperF (conjF x)).c (upperF (conjF x)).d (upperF (conjF x)).w
       rw [neg_tiny t.2.2.1.1 t.2.2.1.2, neg_tiny t.2.2.2.1 t.2.2.2.2] at this
       exact this
    exact sqrt_lower_walk x _ _ _ s h1 h2 h3 s1 (upper_spec (conjF x) hc hcc) s3
end Ab
