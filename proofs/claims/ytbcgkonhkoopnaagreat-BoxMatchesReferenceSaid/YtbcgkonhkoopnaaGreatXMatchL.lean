import Derived.Test.YtbcgkonhkoopnaaGreatXGt
import Derived.Test.YtbcgkonhkoopnaaGreatXIsqrtL
import Derived.Test.YtbcgkonhkoopnaaGreatXSane
open Go Go.Proofs
namespace Ab
set_option maxRecDepth 100000
set_option maxHeartbeats 1000000
theorem matches_spec (a b : Bx) : Spec Tryz.prog [] 26 [a.av, b.av] (.bool true) := by
 have q : ∃ R is, Spec Tryz.prog [] 15 [a.av] (.tup [Bx.av R, .bool is]) ∧ Spec Tryz.prog [] 68 [a.av] (.tup [Bx.av R, .bool is]) := by
  cases h : meetsF a zeroB with
  | true => exact ⟨zeroB, false, sqrt_no a h, sqrt16_no a h⟩
  | false =>
   rcases checked_cases a with e | ⟨_, hv⟩
   ·rw [meets_wide (.inl e)] at h
    cases h
   ·exact ⟨rootF a, true, sqrt_yes a hv h, sqrt16_yes a hv h⟩
 obtain ⟨R, is, q1, q2⟩ := q
 have v1 : Spec Tryz.prog [] 19 [a.av] (.bool a.ok) := valid_spec a.a a.b a.c a.d a.w
 have v2 := valid16_spec a
 have n1 := neg_spec a
 have n2 := neg16_spec a
 have s1 := add_spec a b
 have s2 := add16_spec a b
 have d1 := sub_spec a b
 have d2 := sub16_spec a b
 have m1 := mul_spec a b
 have m2 := mul16_spec a b
 have h1 := hull_spec a b
 have h2 := hull16_spec a b
 generalize applyF (fun a _ => negF a) a a = N at n1 n2
 generalize applyF addF a b = S at s1 s2
 generalize subF a b = D at d1 d2
 generalize applyF mulF a b = M at m1 m2
 generalize applyF hullF a b = H at h1 h2
 exact matches_walk q1 q2 v1 v2 n1 n2 (zero_spec a) (zero16_spec a) s1 s2 d1 d2 m1 m2 h1 h2 (meets_spec a b) (meets16_spec a b) (inside_spec a b) (inside16_spec a b)
theorem cut20 (l : List Int) : (((irows .u32 l).take (if (20 : Int) < ((irows .u32 l).length : Int) then (20 : Int) else ((irows .u32 l).length : Int)).toNat).drop 0) = irows .u32 (l.take 20) := by
 rw [List.drop_zero, irows_take, irows_len]
 congr 1
 split
 ·rfl
 ·rw [Int.toNat_natCast, List.take_of_length_le (Nat.le_refl _), List.take_of_length_le (by omega)]
theorem matchl_walk {a1 a2 a3 a4 b1 b2 b3 b4 c1 c2 c3 c4 x1 x2 x3 x4 y1 y2 y3 y4 e r n : Int} {aw bw cw xw yw nn dn : Bool} {nl dl : List Int} {p1 p2 p3 p4 p5 q1 q2 q3 q4 q5 : Int}
  (e1 : Spec Tryz.prog [] 22 [mkQ nn (nl.take 20) dn (dl.take 20)] (.tup [bx c1 c2 c3 c4 cw, .int .i64 e])) (e2 : Spec Tryz.prog [] 23 [mkQ nn (nl.take 20) dn (dl.take 20)] (.tup [bx c1 c2 c3 c4 cw, .int .i64 e]))
  (i1 : Spec Tryz.prog [] 24 [.int .i64 n] (.int .i64 r)) (i2 : Spec Tryz.prog [] 25 [.int .i64 n] (.int .i64 r))
  (sp : Spec Tryz.prog [] 12 [par p1 p2 p3 p4 p5] (bx x1 x2 x3 x4 xw)) (sq : Spec Tryz.prog [] 12 [par q1 q2 q3 q4 q5] (bx y1 y2 y3 y4 yw))
  (m1 : Spec Tryz.prog [] 26 [bx a1 a2 a3 a4 aw, bx b1 b2 b3 b4 bw] (.bool true)) (m2 : Spec Tryz.prog [] 26 [bx x1 x2 x3 x4 xw, bx y1 y2 y3 y4 yw] (.bool true)) (m3 : Spec Tryz.prog [] 26 [bx y1 y2 y3 y4 yw, bx x1 x2 x3 x4 xw] (.bool true))
  (m4 : Spec Tryz.prog [] 26 [bx a1 a2 a3 a4 aw, bx x1 x2 x3 x4 xw] (.bool true)) (m5 : Spec Tryz.prog [] 26 [bx y1 y2 y3 y4 yw, bx b1 b2 b3 b4 bw] (.bool true)) (m6 : Spec Tryz.prog [] 26 [bx x1 x2 x3 x4 xw, bx x1 x2 x3 x4 xw] (.bool true)) :
  Spec Tryz.prog [] 5 [bx a1 a2 a3 a4 aw, bx b1 b2 b3 b4 bw, par p1 p2 p3 p4 p5, par q1 q2 q3 q4 q5, mkQ nn nl dn dl, .int .i64 n] (.bool true) := by
 have hn : (0 : Int) <= (if (20 : Int) < ((irows .u32 nl).length : Int) then (20 : Int) else ((irows .u32 nl).length : Int)) ∧ (if (20 : Int) < ((irows .u32 nl).length : Int) then (20 : Int) else ((irows .u32 nl).length : Int)) <= ((irows .u32 nl).length : Int) := by split <;> omega
 have hd : (0 : Int) <= (if (20 : Int) < ((irows .u32 dl).length : Int) then (20 : Int) else ((irows .u32 dl).length : Int)) ∧ (if (20 : Int) < ((irows .u32 dl).length : Int) then (20 : Int) else ((irows .u32 dl).length : Int)) <= ((irows .u32 dl).length : Int) := by split <;> omega
 have eq : mkQ nn (nl.take 20) dn (dl.take 20) = .agg [.bool nn, .sl (((irows .u32 nl).take (if (20 : Int) < ((irows .u32 nl).length : Int) then (20 : Int) else ((irows .u32 nl).length : Int)).toNat).drop 0), .bool dn, .sl (((irows .u32 dl).take (if (20 : Int) < ((irows .u32 dl).length : Int) then (20 : Int) else ((irows .u32 dl).length : Int)).toNat).drop 0)] := by rw [cut20, cut20]
 rw [eq] at e1 e2
 refine spec_fn T_ok mixed_ok 1 Tryz.func5 fn_ok5 (by kernel_rfl) ?_
 first | refine Exists.intro _ (And.intro (sane_spec) ?_) | refine Hn_by (Exists.intro _ (And.intro (sane_spec) ?_))
 repeat (first | refine gT ?_ | refine gF ?_ | refine brT ?_ | refine brF ?_)
 refine And.intro hn.1 (And.intro hn.2 (And.intro (irows_ok _ _) ?_))
 refine And.intro hd.1 (And.intro hd.2 (And.intro (irows_ok _ _) ?_))
 first | refine Exists.intro _ (And.intro (e1) ?_) | refine Hn_by (Exists.intro _ (And.intro (e1) ?_))
 first | refine Exists.intro _ (And.intro (e2) ?_) | refine Hn_by (Exists.intro _ (And.intro (e2) ?_))
 refine gB (fun g => absurd g (by simp)) (fun _ => ?_)
 repeat (first | refine gT ?_ | refine gF ?_ | refine brT ?_ | refine brF ?_ | refine And.intro rfl ?_)
 refine gB (fun g => absurd g (by simp)) (fun _ => ?_)
 repeat (first | refine gT ?_ | refine gF ?_ | refine brT ?_ | refine brF ?_ | refine And.intro rfl ?_)
 first | refine Exists.intro _ (And.intro (i1) ?_) | refine Hn_by (Exists.intro _ (And.intro (i1) ?_))
 repeat (first | refine gT ?_ | refine gF ?_ | refine brT ?_ | refine brF ?_ | refine And.intro rfl ?_)
 first | refine Exists.intro _ (And.intro (i2) ?_) | refine Hn_by (Exists.intro _ (And.intro (i2) ?_))
 repeat (first | refine gT ?_ | refine gF ?_ | refine brT ?_ | refine brF ?_ | refine And.intro rfl ?_)
 refine brB (fun g => absurd g (by simp)) (fun _ => ?_)
 first | refine Exists.intro _ (And.intro (sp) ?_) | refine Hn_by (Exists.intro _ (And.intro (sp) ?_))
 first | refine Exists.intro _ (And.intro (sq) ?_) | refine Hn_by (Exists.intro _ (And.intro (sq) ?_))
 first | refine Exists.intro _ (And.intro (m1) ?_) | refine Hn_by (Exists.intro _ (And.intro (m1) ?_))
 repeat (first | refine gT ?_ | refine gF ?_ | refine brT ?_ | refine brF ?_)
 first | refine Exists.intro _ (And.intro (m2) ?_) | refine Hn_by (Exists.intro _ (And.intro (m2) ?_))
 repeat (first | refine gT ?_ | refine gF ?_ | refine brT ?_ | refine brF ?_)
 first | refine Exists.intro _ (And.intro (m3) ?_) | refine Hn_by (Exists.intro _ (And.intro (m3) ?_))
 repeat (first | refine gT ?_ | refine gF ?_ | refine brT ?_ | refine brF ?_)
 first | refine Exists.intro _ (And.intro (m4) ?_) | refine Hn_by (Exists.intro _ (And.intro (m4) ?_))
 repeat (first | refine gT ?_ | refine gF ?_ | refine brT ?_ | refine brF ?_)
 first | refine Exists.intro _ (And.intro (m5) ?_) | refine Hn_by (Exists.intro _ (And.intro (m5) ?_))
 repeat (first | refine gT ?_ | refine gF ?_ | refine brT ?_ | refine brF ?_)
 first | refine Exists.intro _ (And.intro (m6) ?_) | refine Hn_by (Exists.intro _ (And.intro (m6) ?_))
 repeat (first | refine gT ?_ | refine gF ?_ | refine brT ?_ | refine brF ?_)
 exact And.intro (Or.inr rfl) rfl
theorem matchl_law (a1 a2 a3 a4 b1 b2 b3 b4 n : Int) (aw bw nn dn : Bool) (nl dl : List Int) (p1 p2 p3 p4 p5 q1 q2 q3 q4 q5 : Int) (h1 : I64 p1) (h2 : I64 p2) (h3 : I64 p3) (h4 : I64 p4) (h5 : I64 p5) (k1 : I64 q1) (k2 : I64 q2) (k3 : I64 q3) (k4 : I64 q4) (k5 : I64 q5) (hn : I64 n) (hnl : Dg.D nl) (hdl : Dg.D dl) :
  Spec Tryz.prog [] 5 [bx a1 a2 a3 a4 aw, bx b1 b2 b3 b4 bw, par p1 p2 p3 p4 p5, par q1 q2 q3 q4 q5, mkQ nn nl dn dl, .int .i64 n] (.bool true) := by
 obtain ⟨⟨c1, c2, c3, c4, cw⟩, e, e1, e2⟩ := exact_both (nn := nn) (dn := dn) (hnl.take 20) (hdl.take 20) (by rw [List.length_take]; omega) (by rw [List.length_take]; omega)
 obtain ⟨sa, _⟩ := made_ok h1 h2 h3 h4 h5
 obtain ⟨sb, _⟩ := made_ok k1 k2 k3 k4 k5
 generalize madeF p1 p2 p3 p4 p5 = x at sa
 generalize madeF q1 q2 q3 q4 q5 = y at sb
 obtain ⟨x1, x2, x3, x4, xw⟩ := x
 obtain ⟨y1, y2, y3, y4, yw⟩ := y
 exact matchl_walk e1 e2 (isqrt_spec n hn) (isqrt16_spec hn) sa sb (matches_spec ⟨a1, a2, a3, a4, aw⟩ ⟨b1, b2, b3, b4, bw⟩) (matches_spec ⟨x1, x2, x3, x4, xw⟩ ⟨y1, y2, y3, y4, yw⟩) (matches_spec ⟨y1, y2, y3, y4, yw⟩ ⟨x1, x2, x3, x4, xw⟩) (matches_spec ⟨a1, a2, a3, a4, aw⟩ ⟨x1, x2, x3, x4, xw⟩) (matches_spec ⟨y1, y2, y3, y4, yw⟩ ⟨b1, b2, b3, b4, bw⟩) (matches_spec ⟨x1, x2, x3, x4, xw⟩ ⟨x1, x2, x3, x4, xw⟩)
end Ab
