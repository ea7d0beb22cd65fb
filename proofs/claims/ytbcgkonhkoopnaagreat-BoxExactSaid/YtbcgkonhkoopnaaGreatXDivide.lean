import Derived.Test.YtbcgkonhkoopnaaGreatXRight
import Derived.Test.YtbcgkonhkoopnaaGreatXLen32
/-!
The contract of integer.divide.
-/
open Go Go.Proofs
namespace Ab
set_option maxRecDepth 100000
set_option maxHeartbeats 1000000

theorem copied4 (m : List Int) (L : Nat) (h : m.length ≤ L) : ((List.replicate L [AV.int .u32 0]).take 0 ++ (irows .u32 m).take L ++ (List.replicate L [AV.int .u32 0]).drop (0 + min (irows .u32 m).length L)) = irows .u32 (m ++ List.replicate (L - m.length) 0) := by
  rw [List.take_zero, List.nil_append, List.take_of_length_le (by rw [irows_len]; exact h), irows_len, Nat.zero_add, Nat.min_eq_left h, List.drop_replicate, irows_rep, irows_app]
theorem val_pad (m : List Int) (k : Nat) : Dg.val (m ++ List.replicate k 0) = Dg.val m := by rw [Dg.val_app, Dg.val_rep, Int.mul_zero, Int.add_zero]

theorem div_small (gl : List (Nat × AV)) {a b : List Int} (ha : Dg.D a) (hb : Dg.D b) (ca : Dg.Canon a) (cb : Dg.Canon b) (hla : a.length ≤ 1048576) (h : Dg.val a < Dg.val b) :
    Spec Tryz.prog gl 124 [lim a, lim b] (.tup [lim [], lim a]) := by
  have s := compare_spec gl ha hb ca cb (by omega)
  have hc : Dg.cmp (Dg.val a) (Dg.val b) < 0 := by unfold Dg.cmp; rw [if_pos h]; decide
  refine spec_fn T_ok mixed_ok 1 Tryz.func124 fn_ok124 (by kernel_rfl) ?_
  first | refine Exists.intro _ (And.intro (s) ?_) | refine Hn_by (Exists.intro _ (And.intro (s) ?_))
  refine br (fun _ => ?_) (fun g => absurd hc g)
  exact And.intro (Or.inr rfl) rfl
theorem div_one (gl : List (Nat × AV)) {a : List Int} {d : Int} (ha : Dg.D a) (hd : 0 < d ∧ d < 4294967296) (ca : Dg.Canon a) (hla : a.length ≤ 1048576) (h : ¬ Dg.val a < d) :
    Spec Tryz.prog gl 124 [lim a, lim [d]] (.tup [lim (Dg.mag (Dg.val a / d)), lim (Dg.mag (Dg.val a % d))]) := by
  have hD : Dg.D [d] := Dg.D.cons.2 ⟨⟨by omega, by simp only [Dg.B]; omega⟩, Dg.D.nil⟩
  have hC : Dg.Canon [d] := fun x hx => by simp at hx; omega
  have s := compare_spec gl ha hD ca hC (by omega)
  have hv : Dg.val [d] = d := by simp [Dg.val]
  rw [hv] at s
  have hc : ¬ Dg.cmp (Dg.val a) d < 0 := by unfold Dg.cmp; rw [if_neg h]; split <;> decide
  have s2 := small_spec gl ha hd (by omega)
  have hr := Int.emod_nonneg (Dg.val a) (show d ≠ 0 by omega)
  have hr2 := Int.emod_lt_of_pos (Dg.val a) hd.1
  have s3 := trimmed_spec gl [Dg.val a % d] (by simp)
  have hD2 : Dg.D [Dg.val a % d] := Dg.D.cons.2 ⟨⟨hr, by simp only [Dg.B]; omega⟩, Dg.D.nil⟩
  rw [Dg.trim_mag hD2, show Dg.val [Dg.val a % d] = Dg.val a % d by simp [Dg.val]] at s3
  generalize Dg.val a % d = r at s2 s3 ⊢
  generalize Dg.cmp (Dg.val a) d = c at s hc
  refine spec_fn T_ok mixed_ok 1 Tryz.func124 fn_ok124 (by kernel_rfl) ?_
  first | refine Exists.intro _ (And.intro (s) ?_) | refine Hn_by (Exists.intro _ (And.intro (s) ?_))
  refine br (fun g => absurd g hc) (fun _ => ?_)
  repeat (first | refine gT ?_ | refine gF ?_ | refine brT ?_ | refine brF ?_)
  refine And.intro (by decide) (Exists.intro _ (And.intro rfl ?_))
  first | refine Exists.intro _ (And.intro (s2) ?_) | refine Hn_by (Exists.intro _ (And.intro (s2) ?_))
  refine Hn_by (And.intro (Nat.le_refl 1) (Exists.intro _ (And.intro s3 ?_)))
  exact And.intro (Or.inr rfl) rfl

/-- the divisor, shifted, has as many limbs -/
theorem norm_len {y : Int} {s n : Nat} {t : Nat} (hy : 0 < y) (hn : (Dg.mag y).length = n) (hn2 : 2 ≤ n) (ht : (Dg.mag y).getD (n - 1) 0 = (t : Int)) (ht0 : 0 < t) (ht1 : t < 2 ^ 32) (hs : s = 32 - bitLen t) :
    (Dg.mag (y * 2 ^ s)).length = n ∧ y * 2 ^ s < Dg.B ^ n ∧ Dg.B ^ (n - 1) * 2 ^ s ≤ y * 2 ^ s ∧ s < 32 := by
  obtain ⟨b1, b2, b3⟩ := bitLen32 ht1
  have b3 := b3 (by omega)
  have p : (0 : Int) < 2 ^ s := Int.pow_pos (by decide)
  have hD := Dg.magD y
  have hv : Dg.val (Dg.mag y) = y := Dg.magV (by omega)
  have hsp := Dg.split_getD (l := Dg.mag y) (i := n - 1) (by omega)
  rw [hv, ht, show n - 1 + 1 = n by omega, List.drop_eq_nil_of_le (by omega), show Dg.val [] = 0 from rfl, Int.mul_zero, Int.add_zero] at hsp
  have htk := Dg.val_take_lt hD (n - 1)
  have pw := Dg.pow_pos (n - 1)
  have e : Dg.B = (2 : Int) ^ bitLen t * 2 ^ s := by rw [← Int.pow_add, show bitLen t + s = 32 by omega]; rfl
  have tb : (t : Int) + 1 ≤ 2 ^ bitLen t := by
    rw [← pow_cast]; omega
  have hlt : y * 2 ^ s < Dg.B ^ n := by
    have h1 : y < Dg.B ^ (n - 1) * ((t : Int) + 1) := by rw [Int.mul_add, Int.mul_one]; omega
    have h2 : Dg.B ^ (n - 1) * ((t : Int) + 1) ≤ Dg.B ^ (n - 1) * 2 ^ bitLen t := Int.mul_le_mul_of_nonneg_left tb (Int.le_of_lt pw)
    have h3 : y * 2 ^ s < Dg.B ^ (n - 1) * 2 ^ bitLen t * 2 ^ s := Int.mul_lt_mul_of_pos_right (by omega) p
    rw [Int.mul_assoc, ← e, ← Int.pow_succ, show (n - 1).succ = n by omega] at h3
    exact h3
  have hge : Dg.B ^ (n - 1) ≤ y := by
    have : Dg.B ^ (n - 1) * 1 ≤ Dg.B ^ (n - 1) * (t : Int) := Int.mul_le_mul_of_nonneg_left (by omega) (Int.le_of_lt pw)
    omega
  have hys : y ≤ y * 2 ^ s := by
    have : y * 1 ≤ y * 2 ^ s := Int.mul_le_mul_of_nonneg_left (by omega) (by omega)
    omega
  have hl0 : 0 < bitLen t := by
    rcases Nat.eq_zero_or_pos (bitLen t) with e | e
    · rw [e] at b2; omega
    · exact e
  refine ⟨Nat.le_antisymm (Dg.mag_len_lt (by omega) hlt) ?_, hlt, Int.mul_le_mul_of_nonneg_right hge (Int.le_of_lt p), by omega⟩
  rw [← hn]
  exact mag_le (by omega) hys

/-- one digit of the quotient more -/
theorem div_step {X V T U W' O : Int} {j : Nat} (hv : U + Dg.B ^ (j + 1) * (O * V) = X) (hw : W' = U - Dg.B ^ j * (T * V)) : W' + Dg.B ^ j * ((T + Dg.B * O) * V) = X := by
  rw [hw, ← hv, Int.pow_succ]
  grind
theorem take_by (gl : List (Nat × AV)) {N : Nat} {s : St} {K : AV → St → Prop} {u v o : List Int} {j n L : Nat} {q J : Int} (hJ : J = (j : Int)) (hL : L = u.length) (hu : Dg.D u) (hv : Dg.D v) (hvl : v.length = n) (hn : 2 ≤ n) (hj : j + n < u.length) (hul : u.length ≤ 1048576) (hq : 0 ≤ q ∧ q < Dg.B) (hV : 0 < Dg.val v)
    (hW : Dg.val (u.drop j) < Dg.B ^ (n + 1)) (q1 : Dg.val (u.drop j) / Dg.val v ≤ q) (q2 : q ≤ Dg.val (u.drop j) / Dg.val v + 1) (h0 : s.hp 0 = some (.arr (94, 1) (irows .u32 u) true)) (h1 : s.hp 1 = some (.arr (94, 1) (irows .u32 o) true)) (hnx : s.nx ≤ 2)
    (hK : ∀ w : List Int, Dg.TakeOk u w j (Dg.val (u.drop j) / Dg.val v * Dg.val v) → K (.int .u32 (Dg.val (u.drop j) / Dg.val v)) ⟨s.tm, (stOf [] [(0, .arr (94, 1) (irows .u32 w) true), (1, .arr (94, 1) (irows .u32 o) true)] 2).hp, 2⟩) :
    Hn Tryz.prog T gl (N + 1) (.fn 152) [.ms 0 0 L, .int .i64 J, lim v, .int .u64 q] s K := by
  subst hJ hL
  exact take_in gl hu hv hvl hn hj hul hq hV hW q1 q2 h0 h1 hnx hK
theorem div_gen (gl : List (Nat × AV)) {x y : Int} (hx : 0 ≤ x) (hy : 0 < y) (hxy : ¬ x < y) (hla : (Dg.mag x).length ≤ 524288) {n : Nat} (hn : (Dg.mag y).length = n) (hn2 : 2 ≤ n) :
    Spec Tryz.prog gl 124 [lim (Dg.mag x), lim (Dg.mag y)] (.tup [lim (Dg.mag (x / y)), lim (Dg.mag (x % y))]) := by
  have c := compare_spec gl (Dg.magD x) (Dg.magD y) (Dg.magC x) (Dg.magC y) (by omega)
  rw [Dg.magV hx, Dg.magV (by omega)] at c
  have hc : ¬ Dg.cmp x y < 0 := by unfold Dg.cmp; rw [if_neg hxy]; split <;> decide
  have hyD := Dg.magD y
  have hxv := Dg.magV hx
  have hyv : Dg.val (Dg.mag y) = y := Dg.magV (by omega)
  have hyc := Dg.magC y
  have tb := Dg.getD_bd hyD (n - 1)
  have tne : (Dg.mag y).getD (n - 1) 0 ≠ 0 := hyc _ (by rw [List.getLast?_eq_getElem?, hn]; exact getD_some (by omega))
  obtain ⟨t, ht⟩ := Int.eq_ofNat_of_zero_le tb.1
  have t0 : 0 < t := by omega
  have t1 : t < 2 ^ 32 := by simp only [Dg.B] at tb; omega
  have sl := lz32_spec gl t t1
  obtain ⟨s, hs⟩ : ∃ s, s = 32 - bitLen t := ⟨_, rfl⟩
  obtain ⟨nl, nv, ng, s32⟩ := norm_len hy hn hn2 ht t0 t1 hs
  rw [← hs] at sl
  have p : (0 : Int) < 2 ^ s := Int.pow_pos (by decide)
  have lb := left_spec gl hyD (by rw [hn]; have := mag_le (Int.le_of_lt hy) (Int.not_lt.1 hxy); omega) (n := s) (by omega)
  rw [hyv] at lb
  have lx := left_spec gl (Dg.magD x) (by omega) (n := s) (by omega)
  rw [hxv] at lx
  have hX0 : 0 ≤ x * 2 ^ s := Int.mul_nonneg hx (Int.le_of_lt p)
  have hV0 : 0 < y * 2 ^ s := Int.mul_pos hy p
  obtain ⟨la, hla'⟩ : ∃ la, la = (Dg.mag x).length := ⟨_, rfl⟩
  have hnla : n ≤ la := by rw [hla', ← hn]; exact mag_le (Int.le_of_lt hy) (Int.not_lt.1 hxy)
  have hxB : x < Dg.B ^ la := by
    have := Dg.val_lt (Dg.magD x)
    rwa [hxv, ← hla'] at this
  have hXB : x * 2 ^ s < Dg.B ^ (la + 1) := by
    rw [Int.pow_succ]
    refine Int.lt_of_lt_of_le (Int.mul_lt_mul_of_pos_right hxB p) (Int.mul_le_mul_of_nonneg_left ?_ (Int.le_of_lt (Dg.pow_pos la)))
    have := two_pow_B (n := s) (k := 1) (by omega)
    rwa [show Dg.B ^ 1 = Dg.B by decide] at this
  have hml : (Dg.mag (x * 2 ^ s)).length ≤ la + 1 := Dg.mag_len_lt hX0 hXB
  obtain ⟨m1, hm1⟩ : ∃ m1, m1 = la - n + 1 := ⟨_, rfl⟩
  have lxl : ((irows .u32 (Dg.mag x)).length : Int) = la := by rw [irows_len, hla']
  have lyl : ((irows .u32 (Dg.mag y)).length : Int) = n := by rw [irows_len, hn]
  have k1 : w64 (((irows .u32 (Dg.mag y)).length : Int) - 1) = ((n - 1 : Nat) : Int) := by rw [lyl, w64_eq (by omega)]; omega
  have k2 : w64 (((irows .u32 (Dg.mag x)).length : Int) + 1) = ((la + 1 : Nat) : Int) := by rw [lxl, w64_eq (by omega)]; omega
  have k3 : w64 (w64 (((irows .u32 (Dg.mag x)).length : Int) - ((irows .u32 (Dg.mag y)).length : Int)) + 1) = ((m1 : Nat) : Int) := by rw [lxl, lyl, w64_eq (n := (la : Int) - (n : Int)) (by omega), w64_eq (by omega)]; omega
  have iy : (irows .u32 (Dg.mag y))[(w64 (((irows .u32 (Dg.mag y)).length : Int) - 1)).toNat]? = some [.int .u32 (t : Int)] := irows_at (by rw [k1, Int.toNat_natCast, ← ht]; exact getD_some (by omega))
  obtain ⟨V, hV⟩ : ∃ V, V = y * 2 ^ s := ⟨_, rfl⟩
  obtain ⟨X, hX⟩ : ∃ X, X = x * 2 ^ s := ⟨_, rfl⟩
  rw [← hV] at lb nl nv ng hV0
  rw [← hX] at lx hX0 hXB hml
  have vD := Dg.magD V
  have vv : Dg.val (Dg.mag V) = V := Dg.magV (by omega)
  have vt0 : (Dg.mag V).getD (n - 1) 0 ≠ 0 := Dg.magC V _ (by rw [List.getLast?_eq_getElem?, nl]; exact getD_some (by omega))
  have xD := Dg.magD X
  have xv : Dg.val (Dg.mag X) = X := Dg.magV hX0
  obtain ⟨u0, hu0⟩ : ∃ u0, u0 = Dg.mag X ++ List.replicate (la + 1 - (Dg.mag X).length) 0 := ⟨_, rfl⟩
  have u0l : u0.length = la + 1 := by rw [hu0, List.length_append, List.length_replicate]; omega
  have u0D : Dg.D u0 := by rw [hu0]; exact Dg.D.app.2 ⟨xD, Dg.D.rep _⟩
  have u0v : Dg.val u0 = X := by rw [hu0, val_pad, xv]
  have hstart : Dg.val (u0.drop m1) < V := by
    have a := Dg.take_drop_val u0 m1 (by omega)
    have b := (Dg.val_take_lt u0D m1).1
    rw [u0v] at a
    have pm := Dg.pow_pos m1
    refine Dg.mul_lt_cancel pm ?_
    have e : Dg.B ^ la = Dg.B ^ (n - 1) * Dg.B ^ m1 := by rw [← Int.pow_add, show n - 1 + m1 = la by omega]
    have h1 : X < Dg.B ^ la * 2 ^ s := by rw [hX]; exact Int.mul_lt_mul_of_pos_right hxB p
    have h2 : Dg.B ^ la * 2 ^ s ≤ V * Dg.B ^ m1 := by
      have : Dg.B ^ (n - 1) * 2 ^ s * Dg.B ^ m1 ≤ V * Dg.B ^ m1 := Int.mul_le_mul_of_nonneg_right ng (Int.le_of_lt pm)
      rw [e]
      have e2 : Dg.B ^ (n - 1) * Dg.B ^ m1 * 2 ^ s = Dg.B ^ (n - 1) * 2 ^ s * Dg.B ^ m1 := by grind
      omega
    rw [Int.mul_comm]
    omega
  have hq : x / y = X / V := by rw [hX, hV, Int.mul_ediv_mul_of_pos_left _ _ p]
  have hr : x % y * 2 ^ s = X % V := by rw [hX, hV, Int.mul_comm x, Int.mul_comm y, Int.mul_emod_mul_of_pos _ _ p, Int.mul_comm]
  refine spec_fn T_ok mixed_ok 1 Tryz.func124 fn_ok124 (by kernel_rfl) ?_
  first | refine Exists.intro _ (And.intro (c) ?_) | refine Hn_by (Exists.intro _ (And.intro (c) ?_))
  refine br (fun g => absurd g hc) (fun _ => ?_)
  refine brE (fun g => ?_) (fun _ => ?_)
  · have g' : ((irows .u32 (Dg.mag y)).length : Int) = 1 := g
    omega
  refine And.intro (show 0 ≤ w64 (((irows .u32 (Dg.mag y)).length : Int) - 1) by omega) (Exists.intro _ (And.intro iy ?_))
  first | refine Exists.intro _ (And.intro (sl) ?_) | refine Hn_by (Exists.intro _ (And.intro (sl) ?_))
  first | refine Exists.intro _ (And.intro (lb) ?_) | refine Hn_by (Exists.intro _ (And.intro (lb) ?_))
  have M0 : 0 ≤ w64 (((irows .u32 (Dg.mag x)).length : Int) + 1) := by omega
  have M1 : w64 (((irows .u32 (Dg.mag x)).length : Int) + 1) * 4 ≤ 140737488355328 := by omega
  have M2 : w64 (((irows .u32 (Dg.mag x)).length : Int) + 1) ≤ maxLen := by simp [maxLen]; omega
  refine And.intro M0 (And.intro (Int.le_refl _) (And.intro M1 (And.intro M2 ?_)))
  first | refine Exists.intro _ (And.intro (lx) ?_) | refine Hn_by (Exists.intro _ (And.intro (lx) ?_))
  refine And.intro (irows_ok _ _) (And.intro (show 0 + (w64 (((irows .u32 (Dg.mag x)).length : Int) + 1)).toNat ≤ (List.replicate (w64 (((irows .u32 (Dg.mag x)).length : Int) + 1)).toNat [AV.int .u32 0]).length by simp) ?_)
  have N0 : 0 ≤ w64 (w64 (((irows .u32 (Dg.mag x)).length : Int) - ((irows .u32 (Dg.mag y)).length : Int)) + 1) := by omega
  have N1 : w64 (w64 (((irows .u32 (Dg.mag x)).length : Int) - ((irows .u32 (Dg.mag y)).length : Int)) + 1) * 4 ≤ 140737488355328 := by omega
  have N2 : w64 (w64 (((irows .u32 (Dg.mag x)).length : Int) - ((irows .u32 (Dg.mag y)).length : Int)) + 1) ≤ maxLen := by simp [maxLen]; omega
  refine And.intro N0 (And.intro (Int.le_refl _) (And.intro N1 (And.intro N2 ?_)))
  refine aw_loop (fun q : Nat × List Int × List Int => stOf [(8, .int .i64 (s : Int)), (9, lim (Dg.mag V)), (10, .ms 0 0 (la + 1)), (11, .ms 1 0 m1), (63, .int .i64 (m1 : Int)), (64, .int .i64 (q.1 : Int))] [(0, .arr (94, 1) (irows .u32 q.2.1) true), (1, .arr (94, 1) (irows .u32 q.2.2) true)] 2)
    (fun q => q.1 ≤ m1 ∧ Dg.D q.2.1 ∧ q.2.1.length = la + 1 ∧ Dg.D q.2.2 ∧ q.2.2.length = m1 ∧ Dg.val (q.2.1.drop (m1 - q.1)) < V ∧ Dg.val q.2.1 + Dg.B ^ (m1 - q.1) * (Dg.val (q.2.2.drop (m1 - q.1)) * V) = X) (fun q => m1 - q.1) (0, u0, List.replicate m1 0)
    ⟨Nat.zero_le _, u0D, u0l, Dg.D.rep _, by simp, by rw [Nat.sub_zero]; exact hstart, by simp [u0v, Dg.val]⟩
    (le_by ⟨rfl, rfl, (show AV.ms 0 0 (w64 (((irows .u32 (Dg.mag x)).length : Int) + 1)).toNat = _ by rw [k2, Int.toNat_natCast]), (show AV.ms 1 0 (w64 (w64 (((irows .u32 (Dg.mag x)).length : Int) - ((irows .u32 (Dg.mag y)).length : Int)) + 1)).toNat = _ by rw [k3, Int.toNat_natCast]), int_eq (show (((w64 (w64 (((irows .u32 (Dg.mag x)).length : Int) - ((irows .u32 (Dg.mag y)).length : Int)) + 1)).toNat : Nat) : Int) = _ by rw [k3, Int.toNat_natCast]), rfl, trivial⟩
      ⟨(show some (Blk.arr (94, 1) ((List.replicate (w64 (((irows .u32 (Dg.mag x)).length : Int) + 1)).toNat [AV.int .u32 0]).take 0 ++ (irows .u32 (Dg.mag X)).take (w64 (((irows .u32 (Dg.mag x)).length : Int) + 1)).toNat ++ (List.replicate (w64 (((irows .u32 (Dg.mag x)).length : Int) + 1)).toNat [AV.int .u32 0]).drop (0 + min (irows .u32 (Dg.mag X)).length (w64 (((irows .u32 (Dg.mag x)).length : Int) + 1)).toNat)) true) = _ by rw [k2, Int.toNat_natCast, copied4 _ _ hml, ← hu0]),
        (show some (Blk.arr (94, 1) (List.replicate (w64 (w64 (((irows .u32 (Dg.mag x)).length : Int) - ((irows .u32 (Dg.mag y)).length : Int)) + 1)).toNat [AV.int .u32 0]) true) = _ by rw [k3, Int.toNat_natCast, irows_rep]), trivial⟩ (Nat.le_refl _)) ?_
  rintro ⟨k, u, o⟩ ⟨hk, hu, hul, ho, hol, hlt, hv⟩ P hP
  simp only at hk hu hul ho hol hlt hv
  refine br (fun h2 => ?_) (fun h2 => ?_)
  · have hkm : k < m1 := by have : (k : Int) < (m1 : Int) := h2; omega
    obtain ⟨j, hj⟩ : ∃ j, j = m1 - 1 - k := ⟨_, rfl⟩
    have hj1 : m1 - k = j + 1 := by omega
    rw [hj1] at hlt hv
    have kJ : w64 (w64 ((m1 : Int) - 1) - k) = (j : Int) := by rw [w64_eq (n := (m1 : Int) - 1) (by omega), w64_eq (by omega)]; omega
    have hW : Dg.val (u.drop j) < V * Dg.B := by
      have e := Dg.drop_split (l := u) (i := j) (by omega)
      have b := Dg.getD_bd hu j
      rw [e]
      simp only [Dg.B] at *
      omega
    have hWB : Dg.val (u.drop j) < Dg.B ^ (n + 1) := by
      refine Int.lt_trans hW ?_
      rw [Int.pow_succ]
      exact Int.mul_lt_mul_of_pos_right nv (by decide)
    have dh := Dg.dh_of hu vD hn2 nl (j := j) (by omega) vt0 (by rw [vv]; exact hW)
    rw [vv] at dh
    have dg := digit_walk gl (u := u) (v := Dg.mag V) (j := j) (n := n) nl hn2 (by omega) (by omega) rfl (show u.getD (j + n - 1) 0 = u.getD (j + (n - 1)) 0 by rw [show j + n - 1 = j + (n - 1) by omega]) (show u.getD (j + n - 2) 0 = u.getD (j + (n - 2)) 0 by rw [show j + n - 2 = j + (n - 2) by omega]) rfl rfl (Dg.getD_bd hu _) (Dg.getD_bd hu _) dh
    obtain ⟨d1, d2, d3⟩ := Dg.digR_ok dh
    have T0 : 0 ≤ Dg.val (u.drop j) / V := Int.ediv_nonneg (Dg.val_nonneg (hu.drop j)) (by omega)
    have TB : Dg.val (u.drop j) / V < Dg.B := Int.ediv_lt_of_lt_mul hV0 (by rw [Int.mul_comm]; exact hW)
    generalize Dg.digR ((Dg.mag V).getD (n - 2) 0) ((Dg.mag V).getD (n - 1) 0) (u.getD (j + (n - 2)) 0) (u.getD (j + n) 0 * Dg.B + u.getD (j + (n - 1)) 0) = q at dg d1 d2 d3
    have e5 : ((irows .u32 u).drop 0).take (la + 1) = irows .u32 u := by
      rw [List.drop_zero, List.take_of_length_le (by rw [irows_len]; omega)]
    rw [show lim u = AV.sl (irows .u32 u) from rfl, ← e5, ← kJ] at dg
    refine Hn_by (And.intro (show 0 + (la + 1) ≤ (irows .u32 u).length by rw [irows_len]; omega) (Exists.intro _ (And.intro dg ?_)))
    refine take_by gl (u := u) (o := o) (n := n) (j := j) kJ hul.symm hu vD nl hn2 (by omega) (by omega) ⟨by omega, d3⟩ (by rw [vv]; exact hV0) hWB (by rw [vv]; exact d1) (by rw [vv]; exact d2) rfl rfl (Nat.le_refl _) (fun z hz => ?_)
    rw [vv] at hz ⊢
    obtain ⟨z1, z2, z3, z4⟩ := hz
    have io : (irows .u32 o)[0 + (w64 (w64 ((m1 : Int) - 1) - k)).toNat]? = some [.int .u32 (o.getD j 0)] := irows_at (by rw [kJ, Nat.zero_add, Int.toNat_natCast]; exact getD_some (by omega))
    have hw2 : w64 ((k : Int) + 1) = ((k + 1 : Nat) : Int) := by rw [w64_eq (by omega)]; omega
    have J0 : 0 ≤ w64 (w64 ((m1 : Int) - 1) - k) := by omega
    have J1 : w64 (w64 ((m1 : Int) - 1) - k) < (m1 : Int) := by omega
    refine And.intro J0 (And.intro J1 (Exists.intro _ (And.intro io ?_)))
    refine hP (k + 1, z, o.set j (Dg.val (u.drop j) / V)) _ (le_by ⟨rfl, rfl, rfl, rfl, rfl, int_eq hw2, trivial⟩ ⟨rfl, (show some (Blk.arr (94, 1) ((irows .u32 o).set (0 + (w64 (w64 ((m1 : Int) - 1) - k)).toNat) [.int .u32 (Dg.val (u.drop j) / V)]) true) = _ by rw [kJ, Nat.zero_add, Int.toNat_natCast, irows_set]), trivial⟩ (Nat.le_refl _))
      ⟨by show k + 1 ≤ m1; omega, z1, by show z.length = la + 1; omega, ho.set T0 TB, by simp [hol], ?_, ?_⟩ (by show m1 - (k + 1) < m1 - k; omega)
    · show Dg.val (z.drop (m1 - (k + 1))) < V
      rw [show m1 - (k + 1) = j by omega, Dg.window z2 (by omega) z3 z4]
      have := Int.lt_ediv_add_one_mul_self (Dg.val (u.drop j)) hV0
      rw [Int.add_mul, Int.one_mul] at this
      omega
    · show Dg.val z + Dg.B ^ (m1 - (k + 1)) * (Dg.val ((o.set j (Dg.val (u.drop j) / V)).drop (m1 - (k + 1))) * V) = X
      have e6 : (o.set j (Dg.val (u.drop j) / V)).drop j = Dg.val (u.drop j) / V :: o.drop (j + 1) := by
        rw [List.drop_set, if_neg (by omega), Nat.sub_self, List.drop_eq_getElem_cons (by omega)]; rfl
      rw [show m1 - (k + 1) = j by omega, e6, Dg.val]
      exact div_step hv z4
  · have hkm : k = m1 := by have : ¬ (k : Int) < (m1 : Int) := h2; omega
    subst hkm
    clear hP
    rw [Nat.sub_self, List.drop_zero] at hlt
    rw [Nat.sub_self, List.drop_zero, Int.pow_zero, Int.one_mul] at hv
    have u0' := Dg.val_nonneg hu
    have hQ : X / V = Dg.val o := by rw [← hv, Int.add_mul_ediv_right _ _ (by omega), Int.ediv_eq_zero_of_lt u0' hlt, Int.zero_add]
    have hM : X % V = Dg.val u := by rw [← hv, Int.add_mul_emod_self_right, Int.emod_eq_of_lt u0' hlt]
    have hrem : Dg.val u / 2 ^ s = x % y := by rw [← hM, ← hr, Int.mul_ediv_cancel _ (by omega)]
    rw [hq, hQ, ← hrem]
    have t1' := trimmed_spec gl u (by omega)
    rw [Dg.trim_mag hu] at t1'
    have t2' := trimmed_spec gl o (by omega)
    rw [Dg.trim_mag ho] at t2'
    have rs := right_spec gl (Dg.magD (Dg.val u)) (Dg.magC (Dg.val u)) (by
      have a := Dg.mag_len_lt (n := Dg.val u) (k := la + 1) u0' (by have := Dg.val_lt hu; rwa [hul] at this)
      omega) (n := s) (by omega)
    rw [Dg.magV u0'] at rs
    have e5 : ((irows .u32 u).drop 0).take (la + 1) = irows .u32 u := by
      rw [List.drop_zero, List.take_of_length_le (by rw [irows_len]; omega)]
    have e6 : ((irows .u32 o).drop 0).take k = irows .u32 o := by
      rw [List.drop_zero, List.take_of_length_le (by rw [irows_len]; omega)]
    rw [show lim u = AV.sl (irows .u32 u) from rfl, ← e5] at t1'
    rw [show lim o = AV.sl (irows .u32 o) from rfl, ← e6] at t2'
    refine Hn_by (And.intro (show 0 + (la + 1) ≤ (irows .u32 u).length by rw [irows_len]; omega) (Exists.intro _ (And.intro t1' ?_)))
    first | refine Exists.intro _ (And.intro (rs) ?_) | refine Hn_by (Exists.intro _ (And.intro (rs) ?_))
    refine Hn_by (And.intro (show 0 + k ≤ (irows .u32 o).length by rw [irows_len]; omega) (Exists.intro _ (And.intro t2' ?_)))
    exact And.intro (Or.inr rfl) rfl
theorem divide_int (gl : List (Nat × AV)) {x y : Int} (hx : 0 ≤ x) (hy : 0 < y) (hla : (Dg.mag x).length ≤ 524288) : Spec Tryz.prog gl 124 [lim (Dg.mag x), lim (Dg.mag y)] (.tup [lim (Dg.mag (x / y)), lim (Dg.mag (x % y))]) := by
  by_cases h : x < y
  · rw [Int.ediv_eq_zero_of_lt hx h, Int.emod_eq_of_lt hx h, Dg.mag_zero (Int.le_refl 0)]
    exact div_small gl (Dg.magD x) (Dg.magD y) (Dg.magC x) (Dg.magC y) (by omega) (by rw [Dg.magV hx, Dg.magV (by omega)]; exact h)
  · have hyv := Dg.magV (n := y) (by omega)
    have hyD := Dg.magD y
    by_cases h2 : 2 ≤ (Dg.mag y).length
    · exact div_gen gl hx hy h hla rfl h2
    · have hne : Dg.mag y ≠ [] := fun e => by have := (mag_nil (n := y) (by omega)).1 e; omega
      obtain ⟨d, hd⟩ : ∃ d, Dg.mag y = [d] := by
        match hm : Dg.mag y with
        | [] => exact absurd hm hne
        | [d] => exact ⟨d, rfl⟩
        | a :: b :: r => rw [hm] at h2; simp at h2
      have hdy : d = y := by rw [hd] at hyv; simpa [Dg.val] using hyv
      have hdB := hyD d (by rw [hd]; simp)
      subst hdy
      rw [hd]
      have s := div_one gl (Dg.magD x) (d := d) ⟨hy, hdB.2⟩ (Dg.magC x) (by omega) (by rw [Dg.magV hx]; exact h)
      rw [Dg.magV hx] at s
      exact s
end Ab
