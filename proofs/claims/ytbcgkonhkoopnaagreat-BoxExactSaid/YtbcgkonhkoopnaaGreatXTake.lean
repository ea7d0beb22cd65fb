import Derived.Test.YtbcgkonhkoopnaaGreatXDigit
import Derived.Laws.MathBits
/-!
integer.take, entered where it is called: block 0 is the dividend, block 1 is kept.
-/
open Go Go.Proofs
namespace Ab
set_option maxRecDepth 100000
set_option maxHeartbeats 1000000

theorem u64m (n : Int) : u64 n = n % 18446744073709551616 := u64_eq n
theorem sub_raw {ui p b d : Int} (hu : 0 ≤ ui ∧ ui < Dg.B) (hp : 0 ≤ p ∧ p < 18446744073709551616) (hb : 0 ≤ b ∧ b ≤ 1) (hd : d = ui - p % Dg.B - b) :
    u32 (u64 (u64 (u64 ui - Go.bits .and .u64 p 4294967295) - b)) = d % Dg.B ∧ (u64 (u64 (u64 ui - Go.bits .and .u64 p 4294967295) - b)).fdiv (2 ^ 63) = -(d / Dg.B) := by
  have e : Go.bits .and .u64 p 4294967295 = p % 4294967296 := and_low32 p hp.1 hp.2
  simp only [Dg.B] at *
  have e2 : u64 (u64 (u64 ui - p % 4294967296) - b) = d % 18446744073709551616 := by
    rw [u64m, u64m, u64m]; omega
  rw [e, e2, shr63 (by omega), u32_eq]
  omega
theorem sub_raw2 {un c b d : Int} (hu : 0 ≤ un ∧ un < Dg.B) (hc : 0 ≤ c ∧ c < Dg.B) (hb : 0 ≤ b ∧ b ≤ 1) (hd : d = un - c - b) :
    u32 (u64 (u64 (u64 un - c) - b)) = d % Dg.B ∧ (u64 (u64 (u64 un - c) - b)).fdiv (2 ^ 63) = -(d / Dg.B) ∧ -1 ≤ d / Dg.B ∧ d / Dg.B ≤ 0 := by
  simp only [Dg.B] at *
  have e2 : u64 (u64 (u64 un - c) - b) = d % 18446744073709551616 := by
    rw [u64m, u64m, u64m]; omega
  rw [e2, shr63 (by omega), u32_eq]
  omega

theorem upd_look {a b : Blk} {l : List (Nat × Blk)} : upd 0 (some b) (fun k => look ((0, a) :: l) k) = fun k => look ((0, b) :: l) k := by
  funext k
  show (bif Nat.beq k 0 then some b else look ((0, a) :: l) k) = look ((0, b) :: l) k
  unfold look
  cases Nat.beq k 0 <;> rfl
theorem take_in (gl : List (Nat × AV)) {N : Nat} {s : St} {K : AV → St → Prop} {u v o : List Int} {j n : Nat} {q : Int} (hu : Dg.D u) (hv : Dg.D v) (hvl : v.length = n) (hn : 2 ≤ n) (hj : j + n < u.length) (hul : u.length ≤ 1048576) (hq : 0 ≤ q ∧ q < Dg.B) (hV : 0 < Dg.val v)
    (hW : Dg.val (u.drop j) < Dg.B ^ (n + 1)) (q1 : Dg.val (u.drop j) / Dg.val v ≤ q) (q2 : q ≤ Dg.val (u.drop j) / Dg.val v + 1) (h0 : s.hp 0 = some (.arr (94, 1) (irows .u32 u) true)) (h1 : s.hp 1 = some (.arr (94, 1) (irows .u32 o) true)) (hnx : s.nx ≤ 2)
    (hK : ∀ w : List Int, Dg.TakeOk u w j (Dg.val (u.drop j) / Dg.val v * Dg.val v) → K (.int .u32 (Dg.val (u.drop j) / Dg.val v)) ⟨s.tm, (stOf [] [(0, .arr (94, 1) (irows .u32 w) true), (1, .arr (94, 1) (irows .u32 o) true)] 2).hp, 2⟩) :
    Hn Tryz.prog T gl (N + 1) (.fn 152) [.ms 0 0 u.length, .int .i64 (j : Int), lim v, .int .u64 q] s K := by
  have lv : ((irows .u32 v).length : Int) = n := by rw [irows_len, hvl]
  have hz0 := Dg.drop_zero hu (by omega) hW
  refine Hn_in Tryz.f152 Tryz.func152 fn_ok152 (by kernel_rfl) ?_
  refine aw_loop (fun x : Nat × List Int × Int × Int => stOf [(0, .ms 0 0 u.length), (1, .int .i64 (j : Int)), (2, lim v), (3, .int .u64 q), (9, .int .u64 x.2.2.1), (10, .int .u64 x.2.2.2), (18, .int .i64 (n : Int)), (19, .int .i64 (x.1 : Int))]
      [(0, .arr (94, 1) (irows .u32 x.2.1) true), (1, .arr (94, 1) (irows .u32 o) true)] 2)
    (fun x => x.1 ≤ n ∧ Dg.D x.2.1 ∧ x.2.1.length = u.length ∧ (∀ k, j + x.1 ≤ k → x.2.1.getD k 0 = u.getD k 0) ∧ x.2.1.take j = u.take j ∧ (0 ≤ x.2.2.1 ∧ x.2.2.1 < Dg.B) ∧ (0 ≤ x.2.2.2 ∧ x.2.2.2 ≤ 1) ∧
      Dg.val x.2.1 + Dg.B ^ j * (q * Dg.val (v.take x.1)) = Dg.val u + Dg.B ^ x.1 * Dg.B ^ j * (x.2.2.1 + x.2.2.2)) (fun x => n - x.1) (0, u, 0, 0)
    ⟨Nat.zero_le _, hu, rfl, fun _ _ => rfl, rfl, ⟨Int.le_refl 0, by show (0 : Int) < Dg.B; decide⟩, ⟨Int.le_refl 0, by show (0 : Int) ≤ 1; decide⟩, by simp [Dg.val]⟩
    (le_by ⟨rfl, rfl, rfl, rfl, rfl, rfl, int_eq lv, rfl, trivial⟩ ⟨h0, h1, trivial⟩ hnx) ?_
  rintro ⟨i, w, c, b⟩ ⟨hi, hw, hwl, hwz, hwt, hc, hb, hval⟩ P hP
  simp only at hi hw hwl hwz hwt hc hb hval
  refine br (fun h2 => ?_) (fun h2 => ?_)
  · have hin : i < n := by have : (i : Int) < (n : Int) := h2; omega
    have vb := Dg.getD_bd hv i
    have wb := Dg.getD_bd hw (j + i)
    have iv : (irows .u32 v)[((i : Int)).toNat]? = some [.int .u32 (v.getD i 0)] := irows_at (getD_some (by omega))
    have kI : w64 ((j : Int) + i) = ((j + i : Nat) : Int) := by rw [w64_eq (by omega)]; omega
    have iw : (irows .u32 w)[0 + (w64 ((j : Int) + i)).toNat]? = some [.int .u32 (w.getD (j + i) 0)] := irows_at (by rw [kI, Nat.zero_add]; exact getD_some (by simp; omega))
    have k0 : 0 ≤ w64 ((j : Int) + i) := by omega
    have k1 : w64 ((j : Int) + i) < ((u.length : Nat) : Int) := by omega
    obtain ⟨p, hp⟩ : ∃ p, p = q * v.getD i 0 + c := ⟨_, rfl⟩
    have qv := Int.mul_nonneg hq.1 vb.1
    have hp1 : p < 18446744073709551616 := by
      have a : q * v.getD i 0 ≤ (Dg.B - 1) * (Dg.B - 1) := Int.mul_le_mul (by omega) (by omega) vb.1 (by decide)
      simp only [Dg.B] at *
      omega
    have ep : u64 (u64 (q * u64 (v.getD i 0)) + c) = p := by
      rw [u64_in (n := v.getD i 0) (by simp only [Dg.B] at *; omega), u64_in (n := q * v.getD i 0) (by omega), ← hp, u64_in (by omega)]
    obtain ⟨d, hd⟩ : ∃ d, d = w.getD (j + i) 0 - p % Dg.B - b := ⟨_, rfl⟩
    obtain ⟨f1, f2⟩ := sub_raw wb (p := p) ⟨by omega, hp1⟩ hb hd
    rw [← ep] at f1 f2
    have e4 : (u64 (u64 (q * u64 (v.getD i 0)) + c)).fdiv (2 ^ 32) = p / Dg.B := by rw [ep, shr32 (by omega)]
    have hw2 : w64 ((i : Int) + 1) = ((i + 1 : Nat) : Int) := by rw [w64_eq (by omega)]; omega
    refine And.intro (show (0 : Int) ≤ (i : Int) by omega) (Exists.intro _ (And.intro iv ?_))
    refine And.intro (by decide) ?_
    refine And.intro k0 (And.intro k1 (Exists.intro _ (And.intro iw ?_)))
    refine And.intro k0 (And.intro k1 (Exists.intro _ (And.intro iw ?_)))
    refine And.intro (by decide) ?_
    refine hP (i + 1, w.set (j + i) (d % Dg.B), p / Dg.B, -(d / Dg.B)) _ (le_by ⟨rfl, rfl, rfl, rfl, int_eq e4, int_eq f2, rfl, int_eq hw2, trivial⟩ ⟨(show some (Blk.arr (94, 1) ((irows .u32 w).set (0 + (w64 ((j : Int) + i)).toNat) [.int .u32 (u32 (u64 (u64 (u64 (w.getD (j + i) 0) - Go.bits .and .u64 (u64 (u64 (q * u64 (v.getD i 0)) + c)) 4294967295) - b)))]) true) = _ by rw [f1, kI, Nat.zero_add, irows_set]; rfl), rfl, trivial⟩ (Nat.le_refl _))
      ⟨by show i + 1 ≤ n; omega, hw.set (by simp only [Dg.B]; omega) (by simp only [Dg.B]; omega), by simp [hwl], fun k hk => ?_, (Dg.set_take_same w _ (by omega)).trans hwt, ?_, ?_, ?_⟩ (by show n - (i + 1) < n - i; omega)
    · have hk' : j + (i + 1) ≤ k := hk
      exact (Dg.getD_set_ne w _ (by omega)).trans (hwz k (by omega))
    · show 0 ≤ p / Dg.B ∧ p / Dg.B < Dg.B
      simp only [Dg.B]; omega
    · show 0 ≤ -(d / Dg.B) ∧ -(d / Dg.B) ≤ 1
      simp only [Dg.B] at *; omega
    · show Dg.val (w.set (j + i) (d % Dg.B)) + Dg.B ^ j * (q * Dg.val (v.take (i + 1))) = Dg.val u + Dg.B ^ (i + 1) * Dg.B ^ j * (p / Dg.B + -(d / Dg.B))
      rw [Dg.val_set _ _ _ (by omega), Dg.take_succ, show j + i = i + j by omega, Int.pow_add, Int.pow_succ]
      rw [show i + j = j + i by omega]
      exact Dg.sub_step hp hd hval
  · have hin : i = n := by have : ¬ (i : Int) < (n : Int) := h2; omega
    subst hin
    clear hP
    rw [List.take_of_length_le (Nat.le_of_eq hvl)] at hval
    have wb := Dg.getD_bd hw (j + i)
    have kI : w64 ((j : Int) + ((irows .u32 v).length : Int)) = ((j + i : Nat) : Int) := by rw [lv, w64_eq (by omega)]; omega
    have iw : (irows .u32 w)[0 + (w64 ((j : Int) + ((irows .u32 v).length : Int))).toNat]? = some [.int .u32 (w.getD (j + i) 0)] := irows_at (by rw [kI, Nat.zero_add]; exact getD_some (by simp; omega))
    have k0 : 0 ≤ w64 ((j : Int) + ((irows .u32 v).length : Int)) := by omega
    have k1 : w64 ((j : Int) + ((irows .u32 v).length : Int)) < ((u.length : Nat) : Int) := by omega
    obtain ⟨d, hd⟩ : ∃ d, d = w.getD (j + i) 0 - c - b := ⟨_, rfl⟩
    obtain ⟨f1, f2, d1, d2⟩ := sub_raw2 wb hc hb hd
    obtain ⟨x, hx⟩ : ∃ x, x = w.set (j + i) (d % Dg.B) := ⟨_, rfl⟩
    have xl : x.length = u.length := by rw [hx]; simp [hwl]
    have xD : Dg.D x := by rw [hx]; exact hw.set (by simp only [Dg.B]; omega) (by simp only [Dg.B]; omega)
    have xt : x.take j = u.take j := by rw [hx]; exact (Dg.set_take_same w _ (by omega)).trans hwt
    have xz : ∀ k, j + i + 1 ≤ k → x.getD k 0 = u.getD k 0 := fun k hk => by rw [hx]; exact (Dg.getD_set_ne w _ (by omega)).trans (hwz k (by omega))
    have xd : Dg.val (x.drop (j + i + 1)) = 0 := by rw [Dg.drop_same xl xz]; exact hz0
    have xv : Dg.val x = Dg.val u - Dg.B ^ j * (q * Dg.val v - Dg.B ^ (i + 1) * -(d / Dg.B)) := by
      have e2 := Int.emod_add_mul_ediv d Dg.B
      rw [hx, Dg.val_set _ _ _ (by omega), Int.pow_add, Int.pow_succ]
      generalize d % Dg.B = r1 at *
      generalize d / Dg.B = r2 at *
      generalize Dg.B ^ j = Y at *
      generalize Dg.B ^ i = X at *
      subst hd
      grind
    refine And.intro k0 (And.intro k1 (Exists.intro _ (And.intro iw ?_)))
    refine And.intro k0 (And.intro k1 (Exists.intro _ (And.intro iw ?_)))
    refine And.intro (by decide) ?_
    refine brE (fun h3 => ?_) (fun h3 => ?_)
    · have h3' : -(d / Dg.B) = 0 := by rw [← f2]; exact h3
      rw [h3', Int.mul_zero, Int.sub_zero] at xv
      have hqT := Dg.take_end1 xD xl (by omega) xt hV q1 xv
      have ok : Dg.TakeOk u x j (Dg.val (u.drop j) / Dg.val v * Dg.val v) := ⟨xD, xl, xt, by rw [← hqT]; exact xv⟩
      refine And.intro (Or.inr rfl) ?_
      have hk := hK x ok
      have eq : IntKind.u32.wrap q = Dg.val (u.drop j) / Dg.val v := by rw [← hqT]; exact u32_in (by simp only [Dg.B] at *; omega)
      have e1 : upd 0 (some (Blk.arr (94, 1) ((irows .u32 w).set (0 + (w64 ((j : Int) + ((irows .u32 v).length : Int))).toNat) [.int .u32 (u32 (u64 (u64 (u64 (w.getD (j + i) 0) - c) - b)))]) true)) (fun k => look [(0, .arr (94, 1) (irows .u32 w) true), (1, .arr (94, 1) (irows .u32 o) true)] k) =
          (stOf [] [(0, .arr (94, 1) (irows .u32 x) true), (1, .arr (94, 1) (irows .u32 o) true)] 2).hp := by
        rw [f1, kI, Nat.zero_add, Int.toNat_natCast, irows_set, ← hx]
        exact upd_look
      rw [← e1, ← eq] at hk
      exact hk
    · have h3' : d / Dg.B = -1 := by
        have : -(d / Dg.B) ≠ 0 := fun e => h3 (f2.trans e)
        omega
      rw [h3', show - -1 = (1 : Int) from rfl, Int.mul_one] at xv
      have hqT := Dg.take_neg xD xl (by omega) xt hV q2 xd xv
      have hq1 : 1 ≤ q := by
        have : 0 ≤ Dg.val (u.drop j) / Dg.val v := Int.ediv_nonneg (Dg.val_nonneg (hu.drop j)) (by omega)
        omega
      clear hval hwz hwt f2 d1 d2 h3 hc hb
      refine aw_loop (fun y : Nat × List Int × Int => stOf [(0, .ms 0 0 u.length), (1, .int .i64 (j : Int)), (2, lim v), (3, .int .u64 q), (9, .int .u64 y.2.2), (81, .int .i64 (i : Int)), (82, .int .i64 (y.1 : Int))]
          [(0, .arr (94, 1) (irows .u32 y.2.1) true), (1, .arr (94, 1) (irows .u32 o) true)] 2)
        (fun y => y.1 ≤ i ∧ Dg.D y.2.1 ∧ y.2.1.length = u.length ∧ (∀ k, j + y.1 ≤ k → y.2.1.getD k 0 = x.getD k 0) ∧ y.2.1.take j = u.take j ∧ (0 ≤ y.2.2 ∧ y.2.2 ≤ 1) ∧
          Dg.val y.2.1 + Dg.B ^ y.1 * Dg.B ^ j * y.2.2 = Dg.val x + Dg.B ^ j * Dg.val (v.take y.1)) (fun y => i - y.1) (0, x, 0)
        ⟨Nat.zero_le _, xD, xl, fun _ _ => rfl, xt, ⟨Int.le_refl 0, by show (0 : Int) ≤ 1; decide⟩, by simp [Dg.val]⟩
        (le_by ⟨rfl, rfl, rfl, rfl, rfl, int_eq lv, rfl, trivial⟩ ⟨(show some (Blk.arr (94, 1) ((irows .u32 w).set (0 + (w64 ((j : Int) + ((irows .u32 v).length : Int))).toNat) [.int .u32 (u32 (u64 (u64 (u64 (w.getD (j + i) 0) - c) - b)))]) true) = _ by rw [f1, kI, Nat.zero_add, Int.toNat_natCast, irows_set, ← hx]), rfl, trivial⟩ (Nat.le_refl _)) ?_
      rintro ⟨m, y, c⟩ ⟨hm, hy, hyl, hyz, hyt, hc, hval⟩ P hP
      simp only at hm hy hyl hyz hyt hc hval
      refine br (fun h4 => ?_) (fun h4 => ?_)
      · have hmi : m < i := by have : (m : Int) < (i : Int) := h4; omega
        have vb := Dg.getD_bd hv m
        have yb := Dg.getD_bd hy (j + m)
        have iv : (irows .u32 v)[((m : Int)).toNat]? = some [.int .u32 (v.getD m 0)] := irows_at (getD_some (by omega))
        have kM : w64 ((j : Int) + m) = ((j + m : Nat) : Int) := by rw [w64_eq (by omega)]; omega
        have iy : (irows .u32 y)[0 + (w64 ((j : Int) + m)).toNat]? = some [.int .u32 (y.getD (j + m) 0)] := irows_at (by rw [kM, Nat.zero_add]; exact getD_some (by simp; omega))
        have m0 : 0 ≤ w64 ((j : Int) + m) := by omega
        have m1 : w64 ((j : Int) + m) < ((u.length : Nat) : Int) := by omega
        obtain ⟨t, ht⟩ : ∃ t, t = y.getD (j + m) 0 + v.getD m 0 + c := ⟨_, rfl⟩
        have et : u64 (u64 (u64 (y.getD (j + m) 0) + u64 (v.getD m 0)) + c) = t := by
          simp only [Dg.B] at vb yb
          rw [u64_in (n := y.getD (j + m) 0) (by omega), u64_in (n := v.getD m 0) (by omega), u64_in (n := y.getD (j + m) 0 + v.getD m 0) (by omega), ← ht, u64_in (by omega)]
        have e3 : u32 (u64 (u64 (u64 (y.getD (j + m) 0) + u64 (v.getD m 0)) + c)) = t % Dg.B := by rw [et, u32_eq]
        have e4 : (u64 (u64 (u64 (y.getD (j + m) 0) + u64 (v.getD m 0)) + c)).fdiv (2 ^ 32) = t / Dg.B := by rw [et, shr32 (by omega)]
        have hw2 : w64 ((m : Int) + 1) = ((m + 1 : Nat) : Int) := by rw [w64_eq (by omega)]; omega
        refine And.intro (by kernel_rfl) ?_
        repeat (first | refine gT ?_ | refine gF ?_ | refine brT ?_ | refine brF ?_ | refine And.intro rfl ?_)
        refine And.intro m0 (And.intro m1 ?_)
        repeat (first | refine gT ?_ | refine gF ?_ | refine brT ?_ | refine brF ?_ | refine And.intro rfl ?_)
        refine Exists.intro _ (And.intro iy ?_)
        repeat (first | refine gT ?_ | refine gF ?_ | refine brT ?_ | refine brF ?_ | refine And.intro rfl ?_)
        refine And.intro (show (0 : Int) ≤ (m : Int) by omega) (Exists.intro _ (And.intro iv ?_))
        repeat (first | refine gT ?_ | refine gF ?_ | refine brT ?_ | refine brF ?_ | refine And.intro rfl ?_)
        refine And.intro m0 (And.intro m1 (Exists.intro _ (And.intro iy ?_)))
        refine And.intro (by decide) ?_
        refine hP (m + 1, y.set (j + m) (t % Dg.B), t / Dg.B) _ (le_by ⟨rfl, rfl, rfl, rfl, int_eq e4, rfl, int_eq hw2, trivial⟩ ⟨(show some (Blk.arr (94, 1) ((irows .u32 y).set (0 + (w64 ((j : Int) + m)).toNat) [.int .u32 (u32 (u64 (u64 (u64 (y.getD (j + m) 0) + u64 (v.getD m 0)) + c)))]) true) = _ by rw [e3, kM, Nat.zero_add, irows_set]; rfl), rfl, trivial⟩ (Nat.le_refl _))
          ⟨by show m + 1 ≤ i; omega, hy.set (by simp only [Dg.B]; omega) (by simp only [Dg.B]; omega), by simp [hyl], fun k hk => ?_, (Dg.set_take_same y _ (by omega)).trans hyt, ?_, ?_⟩ (by show i - (m + 1) < i - m; omega)
        · have hk' : j + (m + 1) ≤ k := hk
          exact (Dg.getD_set_ne y _ (by omega)).trans (hyz k (by omega))
        · show 0 ≤ t / Dg.B ∧ t / Dg.B ≤ 1
          simp only [Dg.B] at *; omega
        · show Dg.val (y.set (j + m) (t % Dg.B)) + Dg.B ^ (m + 1) * Dg.B ^ j * (t / Dg.B) = Dg.val x + Dg.B ^ j * Dg.val (v.take (m + 1))
          rw [Dg.val_set _ _ _ (by omega), Dg.take_succ, show j + m = m + j by omega, Int.pow_add, Int.pow_succ]
          rw [show m + j = j + m by omega]
          exact Dg.add_step ht hval
      · have hmi : m = i := by have : ¬ (m : Int) < (i : Int) := h4; omega
        subst hmi
        clear hP
        rw [List.take_of_length_le (Nat.le_of_eq hvl)] at hval
        have yb := Dg.getD_bd hy (j + m)
        have iy : (irows .u32 y)[0 + (w64 ((j : Int) + ((irows .u32 v).length : Int))).toNat]? = some [.int .u32 (y.getD (j + m) 0)] := irows_at (by rw [kI, Nat.zero_add]; exact getD_some (by simp; omega))
        obtain ⟨t, ht⟩ : ∃ t, t = y.getD (j + m) 0 + c := ⟨_, rfl⟩
        have et : u32 (y.getD (j + m) 0 + u32 c) = t % Dg.B := by
          simp only [Dg.B] at *
          rw [u32_in (n := c) (by omega), ← ht, u32_eq]
        obtain ⟨z, hz⟩ : ∃ z, z = y.set (j + m) (t % Dg.B) := ⟨_, rfl⟩
        have zl : z.length = u.length := by rw [hz]; simp [hyl]
        have zD : Dg.D z := by rw [hz]; exact hy.set (by simp only [Dg.B]; omega) (by simp only [Dg.B]; omega)
        have zt : z.take j = u.take j := by rw [hz]; exact (Dg.set_take_same y _ (by omega)).trans hyt
        have zz : ∀ k, j + m + 1 ≤ k → z.getD k 0 = u.getD k 0 := fun k hk => by rw [hz]; exact ((Dg.getD_set_ne y _ (by omega)).trans (hyz k (by omega))).trans (xz k hk)
        have zd : Dg.val (z.drop (j + m + 1)) = 0 := by rw [Dg.drop_same zl zz]; exact hz0
        have zv : Dg.val z = Dg.val u - Dg.B ^ j * ((q - 1) * Dg.val v - Dg.B ^ (m + 1) * (1 - t / Dg.B)) := by
          have e2 := Int.emod_add_mul_ediv t Dg.B
          rw [hz, Dg.val_set _ _ _ (by omega), Int.pow_add, Int.pow_succ]
          rw [Int.pow_succ] at xv
          generalize t % Dg.B = r1 at *
          generalize t / Dg.B = r2 at *
          generalize Dg.B ^ j = Y at *
          generalize Dg.B ^ m = X at *
          subst ht
          grind
        have zk := Dg.take_end2 zD zl (by omega) zt hV hqT zd (k := t / Dg.B) (by simp only [Dg.B] at *; omega) zv
        have ok : Dg.TakeOk u z j (Dg.val (u.drop j) / Dg.val v * Dg.val v) := ⟨zD, zl, zt, by rw [← hqT]; exact zk⟩
        refine And.intro k0 (And.intro k1 (Exists.intro _ (And.intro iy ?_)))
        refine And.intro k0 (And.intro k1 (Exists.intro _ (And.intro iy ?_)))
        refine And.intro (Or.inr rfl) ?_
        have hk := hK z ok
        have eq : IntKind.u32.wrap (IntKind.u64.wrap (q - 1)) = Dg.val (u.drop j) / Dg.val v := by
          simp only [Dg.B] at *
          rw [← hqT, show IntKind.u64.wrap (q - 1) = q - 1 from u64_in (by omega)]; exact u32_in (by omega)
        have e1 : upd 0 (some (Blk.arr (94, 1) ((irows .u32 y).set (0 + (w64 ((j : Int) + ((irows .u32 v).length : Int))).toNat) [.int .u32 (u32 (y.getD (j + m) 0 + u32 c))]) true)) (fun k => look [(0, .arr (94, 1) (irows .u32 y) true), (1, .arr (94, 1) (irows .u32 o) true)] k) =
            (stOf [] [(0, .arr (94, 1) (irows .u32 z) true), (1, .arr (94, 1) (irows .u32 o) true)] 2).hp := by
          rw [et, kI, Nat.zero_add, Int.toNat_natCast, irows_set, ← hz]
          exact upd_look
        rw [← e1, ← eq] at hk
        exact hk
end Ab
