import Derived.Test.YtbcgkonhkoopnaaGreatXExact
import Derived.Test.YtbcgkonhkoopnaaGreatXIsqrtL
import Derived.Test.YtbcgkonhkoopnaaGreatXSane
/-!
The law BoxExact.
-/
open Go Go.Proofs
namespace Ab
set_option maxRecDepth 100000
set_option maxHeartbeats 1000000

theorem exl_walk {n d m f u v u2 v2 k a2 b1 b2 er c1 c2 r1 r2 s1 s2 s3 s4 p1 p2 p3 p4 : Int} {sw pw : Bool} {nn dn mn en kn xn yn xd yd : Bool} {nl dl ml el kl xl yl xm ym : List Int} {ae me : Int} (pk1 : Spec Tryz.prog [] 34 [.int .i64 n, .int .i64 2000001] (.int .i64 u)) (pk2 : Spec Tryz.prog [] 34 [.int .i64 d, .int .i64 1000000] (.int .i64 v))
    (pk3 : Spec Tryz.prog [] 34 [.int .i64 m, .int .i64 2000001] (.int .i64 u2)) (pk4 : Spec Tryz.prog [] 34 [.int .i64 f, .int .i64 1000000] (.int .i64 v2))
    (sx : Spec Tryz.prog [] 33 [.int .i64 (w64 (u - 1000000)), .int .i64 (w64 (1 + v))] (.tup [mkQ nn nl dn dl, .int .i64 0])) (sy : Spec Tryz.prog [] 33 [.int .i64 (w64 (u2 - 1000000)), .int .i64 (w64 (1 + v2))] (.tup [mkQ mn ml en el, .int .i64 0]))
    (ea : Spec Tryz.prog [] 22 [mkQ nn nl dn dl] (.tup [bx k a2 0 0 false, .int .i64 0])) (eb : Spec Tryz.prog [] 22 [mkQ mn ml en el] (.tup [bx b1 b2 0 0 false, .int .i64 0]))
    (ff : Spec Tryz.prog [] 35 [mkQ nn nl dn dl, .int .i64 24] (.tup [mkI kn kl, .int .i64 0])) (fs : Spec Tryz.prog [] 36 [mkI kn kl] (.tup [.int .i64 k, .bool true])) (hk : k ≤ a2 ∧ a2 ≤ w64 (k + 1))
    (sA : Spec Tryz.prog [] 37 [mkQ nn nl dn dl, mkQ mn ml en el] (.tup [mkQ xn xl xd xm, .int .i64 ae])) (sM : Spec Tryz.prog [] 38 [mkQ nn nl dn dl, mkQ mn ml en el] (.tup [mkQ yn yl yd ym, .int .i64 me]))
    (ec : Spec Tryz.prog [] 22 [mkQ xn xl xd xm] (.tup [bx c1 c2 0 0 false, .int .i64 0])) (ed : Spec Tryz.prog [] 22 [mkQ yn yl yd ym] (.tup [bx r1 r2 0 0 false, .int .i64 er]))
    (bs : Spec Tryz.prog [] 13 [bx k a2 0 0 false, bx b1 b2 0 0 false] (bx s1 s2 s3 s4 sw)) (bp : Spec Tryz.prog [] 14 [bx k a2 0 0 false, bx b1 b2 0 0 false] (bx p1 p2 p3 p4 pw))
    (i1 : Spec Tryz.prog [] 20 [bx c1 c2 0 0 false, bx s1 s2 s3 s4 sw] (.bool true)) (h : (er = 0 ∧ Spec Tryz.prog [] 20 [bx r1 r2 0 0 false, bx p1 p2 p3 p4 pw] (.bool true)) ∨ (er = 2 ∧ pw = true)) :
    Spec Tryz.prog [] 9 [.int .i64 n, .int .i64 d, .int .i64 m, .int .i64 f] (.bool true) := by
  refine spec_fn T_ok mixed_ok 1 Tryz.func9 fn_ok9 (by kernel_rfl) ?_
  first | refine Exists.intro _ (And.intro (sane_spec) ?_) | refine Hn_by (Exists.intro _ (And.intro (sane_spec) ?_))
  repeat (first | refine gT ?_ | refine gF ?_ | refine brT ?_ | refine brF ?_)
  first | refine Exists.intro _ (And.intro (pk1) ?_) | refine Hn_by (Exists.intro _ (And.intro (pk1) ?_))
  first | refine Exists.intro _ (And.intro (pk2) ?_) | refine Hn_by (Exists.intro _ (And.intro (pk2) ?_))
  first | refine Exists.intro _ (And.intro (sx) ?_) | refine Hn_by (Exists.intro _ (And.intro (sx) ?_))
  first | refine Exists.intro _ (And.intro (pk3) ?_) | refine Hn_by (Exists.intro _ (And.intro (pk3) ?_))
  first | refine Exists.intro _ (And.intro (pk4) ?_) | refine Hn_by (Exists.intro _ (And.intro (pk4) ?_))
  first | refine Exists.intro _ (And.intro (sy) ?_) | refine Hn_by (Exists.intro _ (And.intro (sy) ?_))
  first | refine Exists.intro _ (And.intro (ea) ?_) | refine Hn_by (Exists.intro _ (And.intro (ea) ?_))
  first | refine Exists.intro _ (And.intro (eb) ?_) | refine Hn_by (Exists.intro _ (And.intro (eb) ?_))
  first | refine Exists.intro _ (And.intro (ff) ?_) | refine Hn_by (Exists.intro _ (And.intro (ff) ?_))
  first | refine Exists.intro _ (And.intro (fs) ?_) | refine Hn_by (Exists.intro _ (And.intro (fs) ?_))
  repeat (first | refine gT ?_ | refine gF ?_ | refine brT ?_ | refine brF ?_)
  refine grN (fun g => absurd rfl g) (fun _ => ?_)
  repeat (first | refine gT ?_ | refine gF ?_ | refine brT ?_ | refine brF ?_)
  refine gr (fun g => ?_) (fun _ => ?_)
  · have g' : a2 < k := g
    omega
  repeat (first | refine gT ?_ | refine gF ?_ | refine brT ?_ | refine brF ?_)
  refine gr (fun g => ?_) (fun _ => ?_)
  · have g' : a2 > w64 (k + 1) := g
    omega
  repeat (first | refine gT ?_ | refine gF ?_ | refine brT ?_ | refine brF ?_)
  first | refine Exists.intro _ (And.intro (sA) ?_) | refine Hn_by (Exists.intro _ (And.intro (sA) ?_))
  first | refine Exists.intro _ (And.intro (sM) ?_) | refine Hn_by (Exists.intro _ (And.intro (sM) ?_))
  first | refine Exists.intro _ (And.intro (ec) ?_) | refine Hn_by (Exists.intro _ (And.intro (ec) ?_))
  first | refine Exists.intro _ (And.intro (ed) ?_) | refine Hn_by (Exists.intro _ (And.intro (ed) ?_))
  first | refine Exists.intro _ (And.intro (bs) ?_) | refine Hn_by (Exists.intro _ (And.intro (bs) ?_))
  first | refine Exists.intro _ (And.intro (bp) ?_) | refine Hn_by (Exists.intro _ (And.intro (bp) ?_))
  repeat (first | refine gT ?_ | refine gF ?_ | refine brT ?_ | refine brF ?_)
  first | refine Exists.intro _ (And.intro (i1) ?_) | refine Hn_by (Exists.intro _ (And.intro (i1) ?_))
  repeat (first | refine gT ?_ | refine gF ?_ | refine brT ?_ | refine brF ?_)
  rcases h with ⟨rfl, i2⟩ | ⟨rfl, rfl⟩
  · repeat (first | refine gT ?_ | refine gF ?_ | refine brT ?_ | refine brF ?_)
    first | refine Exists.intro _ (And.intro (i2) ?_) | refine Hn_by (Exists.intro _ (And.intro (i2) ?_))
    repeat (first | refine gT ?_ | refine gF ?_ | refine brT ?_ | refine brF ?_)
    exact And.intro (Or.inr rfl) rfl
  · repeat (first | refine gT ?_ | refine gF ?_ | refine brT ?_ | refine brF ?_)
    exact And.intro (Or.inr rfl) rfl

theorem ffacts {n d : Int} (hn : I64 n) (hd : I64 d) : ∃ N D, 0 < D ∧ D ≤ 1000000 ∧ -1000000 ≤ N ∧ N ≤ 1000000 ∧ Int.gcd N D = 1 ∧
    Spec Tryz.prog [] 33 [.int .i64 (w64 (pickF n 2000001 - 1000000)), .int .i64 (w64 (1 + pickF d 1000000))] (.tup [mkR N D, .int .i64 0]) := by
  have x1 := pick_lt (x := n) (n := 2000001) hn (by decide)
  have y1 := pick_lt (x := d) (n := 1000000) hd (by decide)
  rw [w64_eq (n := pickF n 2000001 - 1000000) (by omega), w64_eq (n := 1 + pickF d 1000000) (by omega)]
  generalize pickF n 2000001 = x at *
  generalize pickF d 1000000 = y at *
  have ho := rof_int [] (n := x - 1000000) (d := 1 + y) (by omega) (by omega) (by omega) (by omega)
  have g0 := gcd_pos (n := x - 1000000) (d := 1 + y) (by omega)
  have g1 := Int.gcd_ediv_gcd_ediv_gcd (i := x - 1000000) (j := 1 + y) (by omega)
  have q0 := Int.ediv_pos_of_pos_of_dvd (show 0 < 1 + y by omega) (by omega) (Int.gcd_dvd_right (x - 1000000) (1 + y))
  generalize (Int.gcd (x - 1000000) (1 + y) : Int) = g at *
  have q1 : (1 + y) / g ≤ 1 + y := Int.ediv_le_self _ (by omega)
  have q2 := quo_abs (a := x - 1000000) g0
  generalize (1 + y) / g = D at *
  generalize (x - 1000000) / g = N at *
  unfold az at q2
  exact ⟨_, _, q0, by omega, by omega, by omega, g1, ho⟩
theorem mul_bd6 {x y : Int} (h1 : -1000000 ≤ x ∧ x ≤ 1000000) (h2 : -1000000 ≤ y ∧ y ≤ 1000000) : -1000000000000 ≤ x * y ∧ x * y ≤ 1000000000000 := by
  have a := Int.mul_nonneg (show 0 ≤ 1000000 - x by omega) (show 0 ≤ 1000000 + y by omega)
  have b := Int.mul_nonneg (show 0 ≤ 1000000 + x by omega) (show 0 ≤ 1000000 - y by omega)
  have c := Int.mul_nonneg (show 0 ≤ 1000000 - x by omega) (show 0 ≤ 1000000 - y by omega)
  have d := Int.mul_nonneg (show 0 ≤ 1000000 + x by omega) (show 0 ≤ 1000000 + y by omega)
  rw [Int.sub_mul, Int.mul_add, Int.mul_add] at a
  rw [Int.add_mul, Int.mul_sub, Int.mul_sub] at b
  rw [Int.sub_mul, Int.mul_sub, Int.mul_sub] at c
  rw [Int.add_mul, Int.mul_add, Int.mul_add] at d
  omega
/-- box.Exact of a fraction that is reduced first -/
theorem exact_red {S Q : Int} (q0 : 0 < Q) (q1 : Q ≤ 1000000000000) (hS : -2000000000000 ≤ S ∧ S ≤ 2000000000000) :
    (ExOk S Q → Spec Tryz.prog [] 22 [mkR (S / Int.gcd S Q) (Q / Int.gcd S Q)] (.tup [(exB S Q).av, .int .i64 0])) ∧ (¬ ExOk S Q → Spec Tryz.prog [] 22 [mkR (S / Int.gcd S Q) (Q / Int.gcd S Q)] (.tup [bx 0 0 0 0 false, .int .i64 2])) := by
  have g0 := gcd_pos (n := S) q0
  have d1 := Int.gcd_dvd_left S Q
  have d2 := Int.gcd_dvd_right S Q
  have hg := Int.gcd_ediv_gcd_ediv_gcd (i := S) (j := Q) (by omega)
  generalize (Int.gcd S Q : Int) = g at *
  have e1 := fl_red g0 d1 d2
  have e2 := fl_red g0 (Int.dvd_neg.2 d1) d2
  rw [Int.neg_ediv_of_dvd d1] at e2
  have a1 := quo_abs (a := S) g0
  have a2 := quo_abs (a := Q) g0
  unfold az at a1 a2
  have x := exact_int (n := S / g) (d := Q / g) (fits_small (by unfold az; omega)) (fits_small (by unfold az; omega)) (Int.ediv_pos_of_pos_of_dvd q0 (by omega) d2) hg (fits_small (by unfold az; omega))
  unfold ExOk exB at *
  rw [e1, e2] at x
  exact x
theorem exl_law (n d m f : Int) (hn : I64 n) (hd : I64 d) (hm : I64 m) (hf : I64 f) : Spec Tryz.prog [] 9 [.int .i64 n, .int .i64 d, .int .i64 m, .int .i64 f] (.bool true) := by
  obtain ⟨N, D, d0, d1, n0, n1, g1, sx⟩ := ffacts hn hd
  obtain ⟨M, F, f0, f1, m0, m1, g2, sy⟩ := ffacts hm hf
  have pk1 := pick_spec n 2000001 (by decide)
  have pk2 := pick_spec d 1000000 (by decide)
  have pk3 := pick_spec m 2000001 (by decide)
  have pk4 := pick_spec f 1000000 (by decide)
  have fN : Fits N := fits_i64 (by omega) (by omega)
  have fD : Fits D := fits_i64 (by omega) (by omega)
  have fM : Fits M := fits_i64 (by omega) (by omega)
  have fF : Fits F := fits_i64 (by omega) (by omega)
  have fN2 : Fits (N * 16777216) := fits_i64 (by omega) (by omega)
  have fM2 : Fits (M * 16777216) := fits_i64 (by omega) (by omega)
  have x1 := fl_bd (N := N) (K := 1000000) d0 (by decide) n0 n1
  have x2 := fl_bd (N := -N) (K := 1000000) d0 (by decide) (by omega) (by omega)
  have y1 := fl_bd (N := M) (K := 1000000) f0 (by decide) m0 m1
  have y2 := fl_bd (N := -M) (K := 1000000) f0 (by decide) (by omega) (by omega)
  have okx : ExOk N D := by unfold ExOk MF; omega
  have oky : ExOk M F := by unfold ExOk MF; omega
  have ea := (exact_int fN fD d0 g1 fN2).1 okx
  have eb := (exact_int fM fF f0 g2 fM2).1 oky
  have ff := floor_int [] fN fD d0 g1 fN2
  have fs := (small_int [] (z := N * 16777216 / D) (quo_fits d0 fN2)).1 (by
    have e : N * 16777216 / D = fl N D := rfl
    rw [e]; omega)
  have wx := fl_width (N := N) d0
  have hk : fl N D ≤ -fl (-N) D ∧ -fl (-N) D ≤ w64 (fl N D + 1) := by rw [w64_eq (by omega)]; exact wx
  have b1 := mul_bd6 (x := N) (y := F) ⟨n0, n1⟩ ⟨by omega, f1⟩
  have b2 := mul_bd6 (x := M) (y := D) ⟨m0, m1⟩ ⟨by omega, d1⟩
  have b3 := mul_bd6 (x := D) (y := F) ⟨by omega, d1⟩ ⟨by omega, f1⟩
  have b4 := mul_bd6 (x := N) (y := M) ⟨n0, n1⟩ ⟨m0, m1⟩
  have q0 : 0 < D * F := Int.mul_pos d0 f0
  have sA := ratadd_int [] fN fD fM fF d0 f0 g1 g2 (fits_i64 (by omega) (by omega)) (fits_i64 (n := M * D) (by omega) (by omega)) (fits_i64 (by omega) (by omega)) (fits_i64 (by omega) (by omega))
  have sM := ratmul_int [] fN fD fM fF d0 f0 g1 g2 (fits_i64 (by omega) (by omega)) (fits_i64 (by omega) (by omega))
  have rS := exact_red (S := N * F + M * D) q0 (by omega) (by omega)
  have rP := exact_red (S := N * M) q0 (by omega) (by omega)
  have u1 := fl_sum (N := N) (M := M) d0 f0
  have u2 := fl_sum (N := -N) (M := -M) d0 f0
  rw [show -N * F + -M * D = -(N * F + M * D) by rw [Int.neg_mul, Int.neg_mul]; omega] at u2
  have wS := fl_width (N := N * F + M * D) q0
  have okS : ExOk (N * F + M * D) (D * F) := by unfold ExOk MF; omega
  have va := exB_vb d0 okx
  have vb := exB_vb f0 oky
  have ec := rS.1 okS
  have vs := exB_vb q0 okS
  have i1 : insideF (exB (N * F + M * D) (D * F)) (applyF addF (exB N D) (exB M F)) = true := by
    rw [apply_vb va vb]
    rcases checked_cases (addF (exB N D) (exB M F)) with e | ⟨e, hv⟩
    · rw [e]; exact inside_wide _
    · rw [e]
      refine inside_of vs hv ⟨?_, ?_, ?_, ?_⟩
      · show w64 (fl N D + fl M F) ≤ fl (N * F + M * D) (D * F)
        rw [w64_eq (by omega)]; exact u1
      · show -fl (-(N * F + M * D)) (D * F) ≤ w64 (-fl (-N) D + -fl (-M) F)
        rw [w64_eq (by omega)]; omega
      · show w64 (0 + 0) ≤ 0
        decide
      · show 0 ≤ w64 (0 + 0)
        decide
  have s1 := inside_spec (exB (N * F + M * D) (D * F)) (applyF addF (exB N D) (exB M F))
  rw [i1] at s1
  have bs := add_spec (exB N D) (exB M F)
  have bp := mul_spec (exB N D) (exB M F)
  have mm := mul_cases va vb
  generalize applyF addF (exB N D) (exB M F) = S at *
  generalize applyF mulF (exB N D) (exB M F) = P at *
  obtain ⟨sa, sb, sc, sd, sw⟩ := S
  by_cases okP : ExOk (N * M) (D * F)
  · have vp := exB_vb q0 okP
    have i2 : insideF (exB (N * M) (D * F)) P = true := by
      rcases mm with e | h
      · rw [e]; exact inside_wide _
      · obtain ⟨k1, k2, k3, k4⟩ := ex_prod d0 f0 h
        exact inside_of vp h.vb ⟨k1, k2, by rw [k3]; exact Int.le_refl 0, by rw [k4]; exact Int.le_refl 0⟩
    have s2 := inside_spec (exB (N * M) (D * F)) P
    rw [i2] at s2
    obtain ⟨pa, pb, pc, pd, pw⟩ := P
    exact exl_walk pk1 pk2 pk3 pk4 sx sy ea eb ff fs hk sA sM ec (rP.1 okP) bs bp s1 (.inl ⟨rfl, s2⟩)
  · have hw : P.w = true := by
      rcases mm with e | h
      · rw [e]; rfl
      · exfalso
        obtain ⟨k1, k2, k3, k4⟩ := ex_prod d0 f0 h
        obtain ⟨_, v1, v2, v3, v4, v5, v6⟩ := h.vb
        have w := fl_width (N := N * M) q0
        exact okP (by unfold ExOk; omega)
    obtain ⟨pa, pb, pc, pd, pw⟩ := P
    exact exl_walk pk1 pk2 pk3 pk4 sx sy ea eb ff fs hk sA sM ec (rP.2 okP) bs bp s1 (.inr ⟨rfl, hw⟩)
end Ab
