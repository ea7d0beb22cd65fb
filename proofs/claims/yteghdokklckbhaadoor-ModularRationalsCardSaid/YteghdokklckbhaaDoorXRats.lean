import Derived.Test.YteghdokklckbhaaDoorXGr
import Derived.Test.YteghdokklckbhaaDoorXRatDiv
import Derived.Test.YteghdokklckbhaaDoorXLifts
import Derived.Test.YteghdokklckbhaaDoorXRatsP
/-!
The law ModularRationals.
-/
open Go Go.Proofs
namespace Ab
set_option maxRecDepth 100000
set_option maxHeartbeats 1000000

theorem mrat_zero {p : Int} {nn dn : Bool} {nl dl : List Int} (h : Pr p) (s1 : Spec Tryd.prog glB4 37 [mkQ nn nl dn dl] (.bool true)) (s2 : Spec Tryd.prog glB4 38 [mkI dn dl, .int .i64 p] (.int .i64 0)) :
    Spec Tryd.prog glB4 16 [mkQ nn nl dn dl, .int .i64 p] (.tup [.int .i64 0, .int .i64 4]) := by
  have s0 := prime_eq h
  refine spec_fn T_ok mixed_ok 1 Tryd.func16 fn_ok16 (by kernel_rfl) ?_
  first | refine Exists.intro _ (And.intro (s1) ?_) | refine Hn_by (Exists.intro _ (And.intro (s1) ?_))
  repeat (first | refine gT ?_ | refine gF ?_ | refine brT ?_ | refine brF ?_)
  first | refine Exists.intro _ (And.intro (s0) ?_) | refine Hn_by (Exists.intro _ (And.intro (s0) ?_))
  repeat (first | refine gT ?_ | refine gF ?_ | refine brT ?_ | refine brF ?_)
  first | refine Exists.intro _ (And.intro (s2) ?_) | refine Hn_by (Exists.intro _ (And.intro (s2) ?_))
  repeat (first | refine gT ?_ | refine gF ?_ | refine brT ?_ | refine brF ?_)
  exact And.intro (Or.inr rfl) rfl
theorem mrat_any {p : Int} (h : Pr p) {n d : Int} (hn : Fits n) (hd : Fits d) (h0 : 0 < d) (hg : Int.gcd n d = 1) :
    (d % p = 0 → Spec Tryd.prog glB4 16 [mkR n d, .int .i64 p] (.tup [.int .i64 0, .int .i64 4])) ∧ (d % p ≠ 0 → Spec Tryd.prog glB4 16 [mkR n d, .int .i64 p] (.tup [.int .i64 (ratF p n d), .int .i64 0])) := by
  have v := ratvalid_int glB4 hn hd h0 hg
  have r := reduce_z h glB4 hd
  refine ⟨fun e => ?_, fun e => ?_⟩
  · rw [e] at r
    exact mrat_zero h v r
  · exact mrat_walk h e v r (reduce_z h glB4 hn) (inverse_eq h glB4 (h.mod d)) (times_eq h glB4 (h.mod n) (h.mod _))

/-- rational.Div by numbers -/
theorem ratdiv_int (gl : List (Nat × AV)) {a b c d : Int} (ha : Fits a) (hb : Fits b) (hc : Fits c) (hd : Fits d) (b0 : 0 < b) (d0 : 0 < d) (c0 : c ≠ 0) (g1 : Int.gcd a b = 1) (g2 : Int.gcd c d = 1) (hn : Fits (a * d)) (hm : Fits (b * c)) :
    ∃ S Q, ((S = a * d ∧ Q = b * c) ∨ (S = -(a * d) ∧ Q = -(b * c))) ∧ 0 < Q ∧ Spec Tryd.prog gl 30 [mkR a b, mkR c d] (.tup [mkR (S / Int.gcd S Q) (Q / Int.gcd S Q), .int .i64 0]) := by
  have m1 := mul_int gl ha hd
  have m2 := mul_int gl hb hc
  rw [resZ_ok hn] at m1
  rw [resZ_ok hm] at m2
  have z := qzero_spec gl (decide (c < 0)) (Dg.mag (az c))
  rw [decide_eq_false (show ¬ Dg.mag (az c) = [] from fun e => by have := (mag_nil (az_nn c)).1 e; unfold az at this; omega)] at z
  have s := all_spec gl (ratvalid_int gl ha hb b0 g1) (ratvalid_int gl hc hd d0 g2)
  have q0 : b * c ≠ 0 := Int.mul_ne_zero (by omega) c0
  by_cases h : 0 < b * c
  · exact ⟨_, _, .inl ⟨rfl, rfl⟩, h, ratdiv_walk gl s z m1 m2 (reduceq_int gl hn hm h)⟩
  · have h' : b * c < 0 := by omega
    have rd := reduceq_int2 gl hn hm h'
    rw [← Int.neg_gcd, ← Int.gcd_neg] at rd
    exact ⟨_, _, .inr ⟨rfl, rfl⟩, by omega, ratdiv_walk gl s z m1 m2 rd⟩

theorem rats_zero {p n d m f p0 u v u2 v2 D a : Int} {nn mn dn : Bool} {nl ml fl : List Int} {b g : Int} (hpr : Spec Tryd.prog glB4 14 [.int .i64 p0] (.int .i64 p)) (pk1 : Spec Tryd.prog glB4 11 [.int .i64 n, .int .i64 2000001] (.int .i64 u)) (pk2 : Spec Tryd.prog glB4 11 [.int .i64 d, .int .i64 1000000] (.int .i64 v))
    (pk3 : Spec Tryd.prog glB4 11 [.int .i64 m, .int .i64 2000001] (.int .i64 u2)) (pk4 : Spec Tryd.prog glB4 11 [.int .i64 f, .int .i64 1000000] (.int .i64 v2))
    (sx : Spec Tryd.prog glB4 27 [.int .i64 (w64 (u - 1000000)), .int .i64 (w64 (1 + v))] (.tup [mkQ nn nl false [D], .int .i64 0])) (sy : Spec Tryd.prog glB4 27 [.int .i64 (w64 (u2 - 1000000)), .int .i64 (w64 (1 + v2))] (.tup [mkQ mn ml dn fl, .int .i64 0]))
    (ra : Spec Tryd.prog glB4 16 [mkQ nn nl false [D], .int .i64 p] (.tup [.int .i64 0, .int .i64 4])) (rb : Spec Tryd.prog glB4 16 [mkQ mn ml dn fl, .int .i64 p] (.tup [.int .i64 b, .int .i64 g]))
    (sm : Spec Tryd.prog glB4 19 [.int .i64 (w64 D), .int .i64 p] (.tup [.int .i64 0, .int .i64 a])) :
    Spec Tryd.prog glB4 9 [.int .i64 n, .int .i64 d, .int .i64 m, .int .i64 f, .int .i64 p0] (.bool true) := by
  refine spec_fn T_ok mixed_ok 1 Tryd.func9 fn_ok9 (by kernel_rfl) ?_
  first | refine Exists.intro _ (And.intro (sane_spec) ?_) | refine Hn_by (Exists.intro _ (And.intro (sane_spec) ?_))
  repeat (first | refine gT ?_ | refine gF ?_ | refine brT ?_ | refine brF ?_)
  first | refine Exists.intro _ (And.intro (hpr) ?_) | refine Hn_by (Exists.intro _ (And.intro (hpr) ?_))
  first | refine Exists.intro _ (And.intro (pk1) ?_) | refine Hn_by (Exists.intro _ (And.intro (pk1) ?_))
  first | refine Exists.intro _ (And.intro (pk2) ?_) | refine Hn_by (Exists.intro _ (And.intro (pk2) ?_))
  first | refine Exists.intro _ (And.intro (sx) ?_) | refine Hn_by (Exists.intro _ (And.intro (sx) ?_))
  first | refine Exists.intro _ (And.intro (pk3) ?_) | refine Hn_by (Exists.intro _ (And.intro (pk3) ?_))
  first | refine Exists.intro _ (And.intro (pk4) ?_) | refine Hn_by (Exists.intro _ (And.intro (pk4) ?_))
  first | refine Exists.intro _ (And.intro (sy) ?_) | refine Hn_by (Exists.intro _ (And.intro (sy) ?_))
  first | refine Exists.intro _ (And.intro (ra) ?_) | refine Hn_by (Exists.intro _ (And.intro (ra) ?_))
  first | refine Exists.intro _ (And.intro (rb) ?_) | refine Hn_by (Exists.intro _ (And.intro (rb) ?_))
  refine And.intro (by decide) (Exists.intro _ (And.intro rfl ?_))
  first | refine Exists.intro _ (And.intro (sm) ?_) | refine Hn_by (Exists.intro _ (And.intro (sm) ?_))
  repeat (first | refine gT ?_ | refine gF ?_ | refine brT ?_ | refine brF ?_)
  exact And.intro (Or.inr rfl) rfl
theorem rats_zero2 {p n d m f p0 u v u2 v2 D a sml : Int} {nn mn dn : Bool} {nl ml fl : List Int} {b : Int} (hs : sml ≠ 0) (hpr : Spec Tryd.prog glB4 14 [.int .i64 p0] (.int .i64 p)) (pk1 : Spec Tryd.prog glB4 11 [.int .i64 n, .int .i64 2000001] (.int .i64 u)) (pk2 : Spec Tryd.prog glB4 11 [.int .i64 d, .int .i64 1000000] (.int .i64 v))
    (pk3 : Spec Tryd.prog glB4 11 [.int .i64 m, .int .i64 2000001] (.int .i64 u2)) (pk4 : Spec Tryd.prog glB4 11 [.int .i64 f, .int .i64 1000000] (.int .i64 v2))
    (sx : Spec Tryd.prog glB4 27 [.int .i64 (w64 (u - 1000000)), .int .i64 (w64 (1 + v))] (.tup [mkQ nn nl false [D], .int .i64 0])) (sy : Spec Tryd.prog glB4 27 [.int .i64 (w64 (u2 - 1000000)), .int .i64 (w64 (1 + v2))] (.tup [mkQ mn ml dn fl, .int .i64 0]))
    (ra : Spec Tryd.prog glB4 16 [mkQ nn nl false [D], .int .i64 p] (.tup [.int .i64 a, .int .i64 0])) (rb : Spec Tryd.prog glB4 16 [mkQ mn ml dn fl, .int .i64 p] (.tup [.int .i64 b, .int .i64 4]))
    (sm : Spec Tryd.prog glB4 19 [.int .i64 (w64 D), .int .i64 p] (.tup [.int .i64 sml, .int .i64 0])) :
    Spec Tryd.prog glB4 9 [.int .i64 n, .int .i64 d, .int .i64 m, .int .i64 f, .int .i64 p0] (.bool true) := by
  refine spec_fn T_ok mixed_ok 1 Tryd.func9 fn_ok9 (by kernel_rfl) ?_
  first | refine Exists.intro _ (And.intro (sane_spec) ?_) | refine Hn_by (Exists.intro _ (And.intro (sane_spec) ?_))
  repeat (first | refine gT ?_ | refine gF ?_ | refine brT ?_ | refine brF ?_)
  first | refine Exists.intro _ (And.intro (hpr) ?_) | refine Hn_by (Exists.intro _ (And.intro (hpr) ?_))
  first | refine Exists.intro _ (And.intro (pk1) ?_) | refine Hn_by (Exists.intro _ (And.intro (pk1) ?_))
  first | refine Exists.intro _ (And.intro (pk2) ?_) | refine Hn_by (Exists.intro _ (And.intro (pk2) ?_))
  first | refine Exists.intro _ (And.intro (sx) ?_) | refine Hn_by (Exists.intro _ (And.intro (sx) ?_))
  first | refine Exists.intro _ (And.intro (pk3) ?_) | refine Hn_by (Exists.intro _ (And.intro (pk3) ?_))
  first | refine Exists.intro _ (And.intro (pk4) ?_) | refine Hn_by (Exists.intro _ (And.intro (pk4) ?_))
  first | refine Exists.intro _ (And.intro (sy) ?_) | refine Hn_by (Exists.intro _ (And.intro (sy) ?_))
  first | refine Exists.intro _ (And.intro (ra) ?_) | refine Hn_by (Exists.intro _ (And.intro (ra) ?_))
  first | refine Exists.intro _ (And.intro (rb) ?_) | refine Hn_by (Exists.intro _ (And.intro (rb) ?_))
  refine And.intro (by decide) (Exists.intro _ (And.intro rfl ?_))
  first | refine Exists.intro _ (And.intro (sm) ?_) | refine Hn_by (Exists.intro _ (And.intro (sm) ?_))
  repeat (first | refine gT ?_ | refine gF ?_ | refine brT ?_ | refine brF ?_)
  refine brE (fun e => absurd e hs) (fun _ => ?_)
  repeat (first | refine gT ?_ | refine gF ?_ | refine brT ?_ | refine brF ?_)
  exact And.intro (Or.inr rfl) rfl
theorem rats_full {p n d m f p0 u v u2 v2 D a sml : Int} {nn mn dn : Bool} {nl ml fl : List Int} {b : Int} (hs : sml ≠ 0) (hpr : Spec Tryd.prog glB4 14 [.int .i64 p0] (.int .i64 p)) (pk1 : Spec Tryd.prog glB4 11 [.int .i64 n, .int .i64 2000001] (.int .i64 u)) (pk2 : Spec Tryd.prog glB4 11 [.int .i64 d, .int .i64 1000000] (.int .i64 v))
    (pk3 : Spec Tryd.prog glB4 11 [.int .i64 m, .int .i64 2000001] (.int .i64 u2)) (pk4 : Spec Tryd.prog glB4 11 [.int .i64 f, .int .i64 1000000] (.int .i64 v2))
    (sx : Spec Tryd.prog glB4 27 [.int .i64 (w64 (u - 1000000)), .int .i64 (w64 (1 + v))] (.tup [mkQ nn nl false [D], .int .i64 0])) (sy : Spec Tryd.prog glB4 27 [.int .i64 (w64 (u2 - 1000000)), .int .i64 (w64 (1 + v2))] (.tup [mkQ mn ml dn fl, .int .i64 0]))
    (ra : Spec Tryd.prog glB4 16 [mkQ nn nl false [D], .int .i64 p] (.tup [.int .i64 a, .int .i64 0])) (rb : Spec Tryd.prog glB4 16 [mkQ mn ml dn fl, .int .i64 p] (.tup [.int .i64 b, .int .i64 0]))
    (sm : Spec Tryd.prog glB4 19 [.int .i64 (w64 D), .int .i64 p] (.tup [.int .i64 sml, .int .i64 0]))
    {an cn ad cd : Bool} {al cl am cm : List Int} {s t : Int} (sAdd : Spec Tryd.prog glB4 28 [mkQ nn nl false [D], mkQ mn ml dn fl] (.tup [mkQ an al ad am, .int .i64 0])) (sMul : Spec Tryd.prog glB4 29 [mkQ nn nl false [D], mkQ mn ml dn fl] (.tup [mkQ cn cl cd cm, .int .i64 0]))
    (rs : Spec Tryd.prog glB4 16 [mkQ an al ad am, .int .i64 p] (.tup [.int .i64 s, .int .i64 0])) (rt : Spec Tryd.prog glB4 16 [mkQ cn cl cd cm, .int .i64 p] (.tup [.int .i64 t, .int .i64 0]))
    (hw : Spec Tryd.prog glB4 19 [.int .i64 (w64 (a + b)), .int .i64 p] (.tup [.int .i64 s, .int .i64 0])) (hm : Spec Tryd.prog glB4 23 [.int .i64 a, .int .i64 b, .int .i64 p] (.tup [.int .i64 t, .int .i64 0]))
    (hq : b ≠ 0 → ∃ qn ql qd qm q, Spec Tryd.prog glB4 30 [mkQ nn nl false [D], mkQ mn ml dn fl] (.tup [mkQ qn ql qd qm, .int .i64 0]) ∧ Spec Tryd.prog glB4 16 [mkQ qn ql qd qm, .int .i64 p] (.tup [.int .i64 q, .int .i64 0]) ∧ Spec Tryd.prog glB4 23 [.int .i64 q, .int .i64 b, .int .i64 p] (.tup [.int .i64 a, .int .i64 0])) :
    Spec Tryd.prog glB4 9 [.int .i64 n, .int .i64 d, .int .i64 m, .int .i64 f, .int .i64 p0] (.bool true) := by
  refine spec_fn T_ok mixed_ok 1 Tryd.func9 fn_ok9 (by kernel_rfl) ?_
  first | refine Exists.intro _ (And.intro (sane_spec) ?_) | refine Hn_by (Exists.intro _ (And.intro (sane_spec) ?_))
  repeat (first | refine gT ?_ | refine gF ?_ | refine brT ?_ | refine brF ?_)
  first | refine Exists.intro _ (And.intro (hpr) ?_) | refine Hn_by (Exists.intro _ (And.intro (hpr) ?_))
  first | refine Exists.intro _ (And.intro (pk1) ?_) | refine Hn_by (Exists.intro _ (And.intro (pk1) ?_))
  first | refine Exists.intro _ (And.intro (pk2) ?_) | refine Hn_by (Exists.intro _ (And.intro (pk2) ?_))
  first | refine Exists.intro _ (And.intro (sx) ?_) | refine Hn_by (Exists.intro _ (And.intro (sx) ?_))
  first | refine Exists.intro _ (And.intro (pk3) ?_) | refine Hn_by (Exists.intro _ (And.intro (pk3) ?_))
  first | refine Exists.intro _ (And.intro (pk4) ?_) | refine Hn_by (Exists.intro _ (And.intro (pk4) ?_))
  first | refine Exists.intro _ (And.intro (sy) ?_) | refine Hn_by (Exists.intro _ (And.intro (sy) ?_))
  first | refine Exists.intro _ (And.intro (ra) ?_) | refine Hn_by (Exists.intro _ (And.intro (ra) ?_))
  first | refine Exists.intro _ (And.intro (rb) ?_) | refine Hn_by (Exists.intro _ (And.intro (rb) ?_))
  refine And.intro (by decide) (Exists.intro _ (And.intro rfl ?_))
  first | refine Exists.intro _ (And.intro (sm) ?_) | refine Hn_by (Exists.intro _ (And.intro (sm) ?_))
  repeat (first | refine gT ?_ | refine gF ?_ | refine brT ?_ | refine brF ?_)
  refine brE (fun e => absurd e hs) (fun _ => ?_)
  repeat (first | refine gT ?_ | refine gF ?_ | refine brT ?_ | refine brF ?_)
  first | refine Exists.intro _ (And.intro (sAdd) ?_) | refine Hn_by (Exists.intro _ (And.intro (sAdd) ?_))
  first | refine Exists.intro _ (And.intro (sMul) ?_) | refine Hn_by (Exists.intro _ (And.intro (sMul) ?_))
  first | refine Exists.intro _ (And.intro (rs) ?_) | refine Hn_by (Exists.intro _ (And.intro (rs) ?_))
  first | refine Exists.intro _ (And.intro (rt) ?_) | refine Hn_by (Exists.intro _ (And.intro (rt) ?_))
  first | refine Exists.intro _ (And.intro (hw) ?_) | refine Hn_by (Exists.intro _ (And.intro (hw) ?_))
  first | refine Exists.intro _ (And.intro (hm) ?_) | refine Hn_by (Exists.intro _ (And.intro (hm) ?_))
  repeat (first | refine gT ?_ | refine gF ?_ | refine brT ?_ | refine brF ?_)
  refine grN (fun g => absurd rfl g) (fun _ => ?_)
  repeat (first | refine gT ?_ | refine gF ?_ | refine brT ?_ | refine brF ?_)
  refine brN (fun g => absurd rfl g) (fun _ => ?_)
  refine brE (fun hb => ?_) (fun hb => ?_)
  · exact And.intro (Or.inr rfl) rfl
  · obtain ⟨qn, ql, qd, qm, q, sDiv, rq, hbk⟩ := hq hb
    first | refine Exists.intro _ (And.intro (sDiv) ?_) | refine Hn_by (Exists.intro _ (And.intro (sDiv) ?_))
    first | refine Exists.intro _ (And.intro (rq) ?_) | refine Hn_by (Exists.intro _ (And.intro (rq) ?_))
    first | refine Exists.intro _ (And.intro (hbk) ?_) | refine Hn_by (Exists.intro _ (And.intro (hbk) ?_))
    repeat (first | refine gT ?_ | refine gF ?_ | refine brT ?_ | refine brF ?_)
    exact And.intro (Or.inr rfl) (congrArg AV.bool (beq_self_eq_true a))

theorem frac_facts {n d : Int} (hn : I64 n) (hd : I64 d) : ∃ N D, 0 < D ∧ D ≤ 1000000 ∧ -1000000 ≤ N ∧ N ≤ 1000000 ∧ Int.gcd N D = 1 ∧
    Spec Tryd.prog glB4 27 [.int .i64 (w64 (pickF n 2000001 - 1000000)), .int .i64 (w64 (1 + pickF d 1000000))] (.tup [mkR N D, .int .i64 0]) := by
  have x1 := pickF_bd (x := n) (n := 2000001) (by decide) hn.1 hn.2
  have y1 := pickF_bd (x := d) (n := 1000000) (by decide) hd.1 hd.2
  rw [w64_eq (n := pickF n 2000001 - 1000000) (by omega), w64_eq (n := 1 + pickF d 1000000) (by omega)]
  generalize pickF n 2000001 = x at *
  generalize pickF d 1000000 = y at *
  have ho := rof_int glB4 (n := x - 1000000) (d := 1 + y) (by omega) (by omega) (by omega) (by omega)
  have g0 := gcd_pos (n := x - 1000000) (d := 1 + y) (by omega)
  have g1 := Int.gcd_ediv_gcd_ediv_gcd (i := x - 1000000) (j := 1 + y) (by omega)
  have q0 := Int.ediv_pos_of_pos_of_dvd (show 0 < 1 + y by omega) (by omega) (Int.gcd_dvd_right (x - 1000000) (1 + y))
  generalize (Int.gcd (x - 1000000) (1 + y) : Int) = g at *
  have q1 : (1 + y) / g ≤ 1 + y := Int.ediv_le_self _ (by omega)
  have q2 := quo_abs (a := x - 1000000) g0
  generalize (1 + y) / g = D at *
  generalize (x - 1000000) / g = N at *
  unfold az at q2
  exact ⟨_, _, q0, by omega, by omega, by omega, g1, ho⟩
theorem mul_bd6 {x y : Int} (h1 : -1000000 ≤ x ∧ x ≤ 1000000) (h2 : -1000000 ≤ y ∧ y ≤ 1000000) : -1000000000000 ≤ x * y ∧ x * y ≤ 1000000000000 := by
  have a := Int.mul_nonneg (show 0 ≤ 1000000 - x by omega) (show 0 ≤ 1000000 + y by omega)
  have b := Int.mul_nonneg (show 0 ≤ 1000000 + x by omega) (show 0 ≤ 1000000 - y by omega)
  have c := Int.mul_nonneg (show 0 ≤ 1000000 - x by omega) (show 0 ≤ 1000000 - y by omega)
  have d := Int.mul_nonneg (show 0 ≤ 1000000 + x by omega) (show 0 ≤ 1000000 + y by omega)
  rw [Int.sub_mul, Int.mul_add, Int.mul_add] at a
  rw [Int.add_mul, Int.mul_sub, Int.mul_sub] at b
  rw [Int.sub_mul, Int.mul_sub, Int.mul_sub] at c
  rw [Int.add_mul, Int.mul_add, Int.mul_add] at d
  omega
/-- the residue of a fraction in lowest terms -/
theorem rat_red {p S Q : Int} (h : Pr p) (hS : Fits S) (hQ : Fits Q) (q0 : 0 < Q) (hne : (Q / Int.gcd S Q) % p ≠ 0) :
    Spec Tryd.prog glB4 16 [mkR (S / Int.gcd S Q) (Q / Int.gcd S Q), .int .i64 p] (.tup [.int .i64 (ratF p (S / Int.gcd S Q) (Q / Int.gcd S Q)), .int .i64 0]) := by
  have g0 := gcd_pos (n := S) q0
  exact (mrat_any h (quo_fits g0 hS) (quo_fits g0 hQ) (Int.ediv_pos_of_pos_of_dvd q0 (by omega) (Int.gcd_dvd_right S Q)) (Int.gcd_ediv_gcd_ediv_gcd (by omega))).2 hne
theorem rats_walk {p : Int} (h : Pr p) (n d m f p0 : Int) (hn : I64 n) (hd : I64 d) (hm : I64 m) (hf : I64 f) (hp0 : I64 p0) (hp : lawP p0 = p) :
    Spec Tryd.prog glB4 9 [.int .i64 n, .int .i64 d, .int .i64 m, .int .i64 f, .int .i64 p0] (.bool true) := by
  have hpr := lawPrime_spec glB4 p0 hp0.1 hp0.2
  rw [hp] at hpr
  have h1 := h.lo
  have h2 := h.hi
  obtain ⟨N, D, d0, d1, n0, n1, g1, sx⟩ := frac_facts hn hd
  obtain ⟨M, F, f0, f1, m0, m1, g2, sy⟩ := frac_facts hm hf
  have pk1 := pick_spec glB4 n 2000001 (by decide)
  have pk2 := pick_spec glB4 d 1000000 (by decide)
  have pk3 := pick_spec glB4 m 2000001 (by decide)
  have pk4 := pick_spec glB4 f 1000000 (by decide)
  have fN : Fits N := fits_i64 (by omega) (by omega)
  have fD : Fits D := fits_i64 (by omega) (by omega)
  have fM : Fits M := fits_i64 (by omega) (by omega)
  have fF : Fits F := fits_i64 (by omega) (by omega)
  have eD : w64 D = D := w64_eq (by omega)
  have hsm := Mod_spec h (w64 D)
  rw [show w64 D % p = D % p by rw [eD]] at hsm
  have rx := mrat_any h fN fD d0 g1
  have ry := mrat_any h fM fF f0 g2
  have ex : mkR N D = mkQ (decide (N < 0)) (Dg.mag (az N)) false [D] := by rw [mkR_pos d0, mag_limb d0 (by omega)]
  by_cases hD : D % p = 0
  · obtain ⟨b, g, rb⟩ : ∃ b g, Spec Tryd.prog glB4 16 [mkR M F, .int .i64 p] (.tup [.int .i64 b, .int .i64 g]) := by
      by_cases hF : F % p = 0
      · exact ⟨_, _, ry.1 hF⟩
      · exact ⟨_, _, ry.2 hF⟩
    have ra := rx.1 hD
    rw [hD] at hsm
    rw [ex] at sx ra
    exact rats_zero hpr pk1 pk2 pk3 pk4 sx sy ra rb hsm
  · have ra := rx.2 hD
    by_cases hF : F % p = 0
    · have rb := ry.1 hF
      rw [ex] at sx ra
      exact rats_zero2 hD hpr pk1 pk2 pk3 pk4 sx sy ra rb hsm
    · have rb := ry.2 hF
      have b1 := mul_bd6 (x := N) (y := F) ⟨n0, n1⟩ ⟨by omega, f1⟩
      have b2 := mul_bd6 (x := M) (y := D) ⟨m0, m1⟩ ⟨by omega, d1⟩
      have b3 := mul_bd6 (x := D) (y := F) ⟨by omega, d1⟩ ⟨by omega, f1⟩
      have b4 := mul_bd6 (x := N) (y := M) ⟨n0, n1⟩ ⟨m0, m1⟩
      have b5 := mul_bd6 (x := D) (y := M) ⟨by omega, d1⟩ ⟨m0, m1⟩
      have q0 : 0 < D * F := Int.mul_pos d0 f0
      have fS : Fits (N * F + M * D) := fits_i64 (by omega) (by omega)
      have fQ : Fits (D * F) := fits_i64 (by omega) (by omega)
      have fP : Fits (N * M) := fits_i64 (by omega) (by omega)
      have fNF : Fits (N * F) := fits_i64 (by omega) (by omega)
      have fDM : Fits (D * M) := fits_i64 (by omega) (by omega)
      have sAdd := ratadd_int glB4 fN fD fM fF d0 f0 g1 g2 fNF (fits_i64 (n := M * D) (by omega) (by omega)) fS fQ
      have sMul := ratmul_int glB4 fN fD fM fF d0 f0 g1 g2 fP fQ
      have hne := mul_ne h hD hF
      have dS := Int.gcd_dvd_left (N * F + M * D) (D * F)
      have dQ := Int.gcd_dvd_right (N * F + M * D) (D * F)
      have dS2 := Int.gcd_dvd_left (N * M) (D * F)
      have dQ2 := Int.gcd_dvd_right (N * M) (D * F)
      have rs := rat_red h fS fQ q0 (ratF_quo h hne dS dQ).2
      have rt := rat_red h fP fQ q0 (ratF_quo h hne dS2 dQ2).2
      rw [rat_sum h hD hF dS dQ] at rs
      rw [rat_prod h hD hF dS2 dQ2] at rt
      have ba := ratF_bd h N D
      have bb := ratF_bd h M F
      have hw := Mod_spec h (w64 (ratF p N D + ratF p M F))
      rw [show w64 (ratF p N D + ratF p M F) % p = (ratF p N D + ratF p M F) % p by rw [w64_eq (by omega)]] at hw
      have hm := Mul_spec h (ratF p N D) (ratF p M F)
      have hq : ratF p M F ≠ 0 → ∃ qn ql qd qm q, Spec Tryd.prog glB4 30 [mkR N D, mkR M F] (.tup [mkQ qn ql qd qm, .int .i64 0]) ∧ Spec Tryd.prog glB4 16 [mkQ qn ql qd qm, .int .i64 p] (.tup [.int .i64 q, .int .i64 0]) ∧ Spec Tryd.prog glB4 23 [.int .i64 q, .int .i64 (ratF p M F), .int .i64 p] (.tup [.int .i64 (ratF p N D), .int .i64 0]) := by
        intro hb
        have hM := ratF_num h hF hb
        have M0 : M ≠ 0 := fun e => hM (by rw [e, Int.zero_emod])
        obtain ⟨S, Q, hs, Q0, sDiv⟩ := ratdiv_int glB4 fN fD fM fF d0 f0 M0 g1 g2 fNF fDM
        have fS : Fits S := by
          rcases hs with ⟨rfl, _⟩ | ⟨rfl, _⟩
          · exact fNF
          · exact fits_i64 (by omega) (by omega)
        have fQ : Fits Q := by
          rcases hs with ⟨_, rfl⟩ | ⟨_, rfl⟩
          · exact fDM
          · exact fits_i64 (by omega) (by omega)
        obtain ⟨e1, e2⟩ := rat_quot h hD hF hM hs (Int.gcd_dvd_left S Q) (Int.gcd_dvd_right S Q)
        have rq := rat_red h fS fQ Q0 e2
        have hbk := Mul_spec h (ratF p (S / Int.gcd S Q) (Q / Int.gcd S Q)) (ratF p M F)
        rw [e1] at hbk
        exact ⟨_, _, _, _, _, sDiv, rq, hbk⟩
      rw [ex] at sx ra sAdd sMul hq
      exact rats_full hD hpr pk1 pk2 pk3 pk4 sx sy ra rb hsm sAdd sMul rs rt hw hm hq
theorem rats_spec (n d m f p0 : Int) (hn : (Lit.int .i64 n).wf = true) (hd : (Lit.int .i64 d).wf = true) (hm : (Lit.int .i64 m).wf = true) (hf : (Lit.int .i64 f).wf = true) (hp : (Lit.int .i64 p0).wf = true) :
    Spec Tryd.prog glB4 9 [.int .i64 n, .int .i64 d, .int .i64 m, .int .i64 f, .int .i64 p0] (.bool true) :=
  rats_walk (Pr.of (lawP_prime p0 (wf_I64 hp).1 (wf_I64 hp).2)) n d m f p0 (wf_I64 hn) (wf_I64 hd) (wf_I64 hm) (wf_I64 hf) (wf_I64 hp) rfl
end Ab
