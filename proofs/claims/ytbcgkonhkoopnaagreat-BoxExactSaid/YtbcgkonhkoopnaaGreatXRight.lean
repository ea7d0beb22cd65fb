import Derived.Test.YtbcgkonhkoopnaaGreatXTake
/-!
The contract of integer.right.
-/
open Go Go.Proofs
namespace Ab
set_option maxRecDepth 100000
set_option maxHeartbeats 1000000

theorem or_limb2 {x y : Int} (hx : 0 ≤ x ∧ x < Dg.B) (hy : 0 ≤ y ∧ y < Dg.B) : Go.bits .or .u64 (u64 x) (u64 (u64 y * 2 ^ 32)) = x + Dg.B * y := by
  simp only [Dg.B] at *
  obtain ⟨a, rfl⟩ := Int.eq_ofNat_of_zero_le hx.1
  obtain ⟨b, rfl⟩ := Int.eq_ofNat_of_zero_le hy.1
  rw [u64_in (n := (b : Int)) (by omega), u64_in (n := (a : Int)) (by omega), u64_in (n := (b : Int) * 2 ^ 32) (by omega)]
  have e : ((b : Int) * 2 ^ 32) = ((2 ^ 32 * b : Nat) : Int) := by omega
  rw [e, u64_or_nat _ _ (by omega) (by omega), Nat.or_comm, ← Nat.two_pow_add_eq_or_of_lt (by omega)]
  omega
theorem mask32 {x r : Nat} (hx : x < 4294967296) (hr : r < 32) : Go.bits .and .u32 (x : Int) (u32 (u32 (1 * 2 ^ r) - 1)) = ((x % 2 ^ r : Nat) : Int) := by
  have p : 2 ^ r ≤ 2 ^ 31 := Nat.pow_le_pow_right (by decide) (by omega)
  have p0 : 0 < 2 ^ r := Nat.pow_pos (by decide)
  have e1 : (1 : Int) * 2 ^ r = ((2 ^ r : Nat) : Int) := by rw [pow_cast]; omega
  rw [e1, u32_in (n := ((2 ^ r : Nat) : Int)) (by omega), show ((2 ^ r : Nat) : Int) - 1 = ((2 ^ r - 1 : Nat) : Int) by omega, u32_in (by omega), u32_and_nat _ _ hx (by omega), Nat.and_two_pow_sub_one_eq_mod]
theorem limb_shr {x y rest : Int} {r : Nat} (hr : r < 32) : ((x + Dg.B * y) / 2 ^ r) % Dg.B = ((x + Dg.B * (y + Dg.B * rest)) / 2 ^ r) % Dg.B := by
  have p : (0 : Int) < 2 ^ r := Int.pow_pos (by decide)
  have e : Dg.B = (2 : Int) ^ r * 2 ^ (32 - r) := by rw [← Int.pow_add, show r + (32 - r) = 32 by omega]; rfl
  have e2 : x + Dg.B * (y + Dg.B * rest) = (x + Dg.B * y) + 2 ^ r * (Dg.B * (2 ^ (32 - r) * rest)) := by
    have : Dg.B * (Dg.B * rest) = 2 ^ r * (Dg.B * (2 ^ (32 - r) * rest)) := by
      rw [show Dg.B * (Dg.B * rest) = Dg.B * ((2 ^ r * 2 ^ (32 - r)) * rest) by rw [← e]]
      grind
    rw [Int.mul_add]; omega
  rw [e2, Int.add_mul_ediv_left _ _ (by omega), Int.add_mul_emod_self_left]
/-- the number from place k on, shifted -/
def shrV (l : List Int) (r k : Nat) : Int := Dg.val (l.drop k) / 2 ^ r
theorem shrV_step {l : List Int} {r k : Nat} (hl : Dg.D l) (hk : k < l.length) (hr : r < 32) : shrV l r k = ((l.getD k 0 + Dg.B * l.getD (k + 1) 0) / 2 ^ r) % Dg.B + Dg.B * shrV l r (k + 1) := by
  have p : (0 : Int) < 2 ^ r := Int.pow_pos (by decide)
  have e1 : Dg.val (l.drop k) = l.getD k 0 + Dg.B * Dg.val (l.drop (k + 1)) := Dg.drop_split hk
  have e2 : ∃ rest, Dg.val (l.drop (k + 1)) = l.getD (k + 1) 0 + Dg.B * rest := by
    by_cases h : k + 1 < l.length
    · exact ⟨_, Dg.drop_split h⟩
    · refine ⟨0, ?_⟩
      rw [List.drop_eq_nil_of_le (by omega), List.getD_eq_getElem?_getD, List.getElem?_eq_none (by omega)]
      rfl
  obtain ⟨rest, e2⟩ := e2
  rw [limb_shr (rest := rest) hr, ← e2, ← e1]
  unfold shrV
  have h := Int.emod_add_mul_ediv (Dg.val (l.drop k) / 2 ^ r) Dg.B
  have hx := Dg.getD_bd hl k
  have e3 : Dg.val (l.drop k) / 2 ^ r / Dg.B = Dg.val (l.drop (k + 1)) / 2 ^ r := by
    rw [Int.ediv_ediv_of_nonneg (Int.le_of_lt p), Int.mul_comm, ← Int.ediv_ediv_of_nonneg (by decide), e1, Int.add_mul_ediv_left _ _ (by decide), Int.ediv_eq_zero_of_lt hx.1 hx.2, Int.zero_add]
  rw [e3] at h
  exact h.symm

theorem right_nil (gl : List (Nat × AV)) {l : List Int} (hl : Dg.D l) (hc : Dg.Canon l) (hla : l.length ≤ 1048576) {n : Nat} (hn : n ≤ 1048576) (h : l.length ≤ n / 32) :
    Spec Tryz.prog gl 82 [lim l, .int .i64 (n : Int)] (.tup [lim (Dg.mag (Dg.val l / 2 ^ n)), .bool (decide (Dg.val l % 2 ^ n ≠ 0))]) := by
  have la : ((irows .u32 l).length : Int) = l.length := by rw [irows_len]
  have hW : w64 (Int.tdiv (n : Int) 32) = ((n / 32 : Nat) : Int) := by
    rcases tdiv32 n with h | h
    · exact h
    · omega
  have v0 := Dg.val_nonneg hl
  have v1 : Dg.val l < 2 ^ n := by
    have a := Dg.val_lt hl
    have b : Dg.B ^ l.length ≤ 2 ^ n := by rw [pow_B]; exact two_pow_le (by omega)
    omega
  rw [Int.ediv_eq_zero_of_lt v0 v1, Int.emod_eq_of_lt v0 v1, Dg.mag_zero (Int.le_refl 0)]
  have e : decide (Dg.val l ≠ 0) = decide (((irows .u32 l).length : Int) > 0) := by
    rw [la]
    refine decide_eq_decide.2 ⟨fun g => ?_, fun g => ?_⟩
    · cases l with
      | nil => exact absurd rfl g
      | cons x l => simp
    · have : l ≠ [] := fun e => by subst e; simp at g
      have := Dg.val_pos hl hc this
      omega
  rw [e]
  refine spec_fn T_ok mixed_ok 0 Tryz.func82 fn_ok82 (by kernel_rfl) ?_
  refine And.intro (by decide) ?_
  refine br (fun _ => ?_) (fun g => ?_)
  · exact And.intro (Or.inr rfl) rfl
  · have g' : ¬ w64 (Int.tdiv (n : Int) 32) ≥ ((irows .u32 l).length : Int) := g
    omega

theorem lost_val {tk X rest : Int} {x r : Nat} (hr : r < 32) (h1 : 0 ≤ tk ∧ tk < X) : (tk + X * ((x : Int) + Dg.B * rest)) % (X * 2 ^ r) = tk + X * ((x % 2 ^ r : Nat) : Int) := by
  have p : (0 : Int) < 2 ^ r := Int.pow_pos (by decide)
  have e : Dg.B = (2 : Int) ^ r * 2 ^ (32 - r) := by rw [← Int.pow_add, show r + (32 - r) = 32 by omega]; rfl
  have hx := Nat.mod_add_div x (2 ^ r)
  have hx' : (x : Int) = ((x % 2 ^ r : Nat) : Int) + 2 ^ r * ((x / 2 ^ r : Nat) : Int) := by
    have : ((x % 2 ^ r + 2 ^ r * (x / 2 ^ r) : Nat) : Int) = (x : Int) := by rw [hx]
    rw [Int.natCast_add, Int.natCast_mul, pow_cast] at this
    exact this.symm
  have hm : ((x % 2 ^ r : Nat) : Int) + 1 ≤ 2 ^ r := by
    have := Nat.mod_lt x (Nat.pow_pos (n := r) (show 0 < 2 by decide))
    rw [← pow_cast]
    omega
  have hm0 : (0 : Int) ≤ ((x % 2 ^ r : Nat) : Int) := Int.natCast_nonneg _
  generalize ((x % 2 ^ r : Nat) : Int) = m at *
  generalize ((x / 2 ^ r : Nat) : Int) = d at *
  have e3 : tk + X * ((x : Int) + Dg.B * rest) = (tk + X * m) + X * 2 ^ r * (d + 2 ^ (32 - r) * rest) := by
    rw [hx', e]; grind
  rw [e3, Int.add_mul_emod_self_left]
  refine Int.emod_eq_of_lt ?_ ?_
  · have := Int.mul_nonneg (show 0 ≤ X by omega) hm0
    omega
  · have : X * (m + 1) ≤ X * 2 ^ r := Int.mul_le_mul_of_nonneg_left hm (by omega)
    rw [Int.mul_add, Int.mul_one] at this
    omega
theorem right_spec (gl : List (Nat × AV)) {l : List Int} (hl : Dg.D l) (hc : Dg.Canon l) (hla : l.length ≤ 1048576) {n : Nat} (hn : n ≤ 1048576) :
    Spec Tryz.prog gl 82 [lim l, .int .i64 (n : Int)] (.tup [lim (Dg.mag (Dg.val l / 2 ^ n)), .bool (decide (Dg.val l % 2 ^ n ≠ 0))]) := by
  by_cases hlen : l.length ≤ n / 32
  · exact right_nil gl hl hc hla hn hlen
  have la : ((irows .u32 l).length : Int) = l.length := by rw [irows_len]
  have hW : w64 (Int.tdiv (n : Int) 32) = ((n / 32 : Nat) : Int) := by
    rcases tdiv32 n with h | h
    · exact h
    · omega
  have hR : Int.tmod (n : Int) 32 = ((n % 32 : Nat) : Int) := by rw [Int.ofNat_tmod]; rfl
  obtain ⟨w, hw⟩ : ∃ w, w = n / 32 := ⟨_, rfl⟩
  obtain ⟨r, hr⟩ : ∃ r, r = n % 32 := ⟨_, rfl⟩
  have hnw : n = 32 * w + r := by omega
  have hr32 : r < 32 := by omega
  rw [← hw] at hW hlen
  rw [← hr] at hR
  have p : (0 : Int) < 2 ^ r := Int.pow_pos (by decide)
  have e2n : (2 : Int) ^ n = Dg.B ^ w * 2 ^ r := by rw [hnw, Int.pow_add, Int.pow_mul]; rfl
  have hsplit := Dg.take_drop_val l w (by omega)
  have htk := Dg.val_take_lt hl w
  have pw := Dg.pow_pos w
  have hdiv : Dg.val l / 2 ^ n = shrV l r w := by
    unfold shrV
    rw [e2n, ← Int.ediv_ediv_of_nonneg (Int.le_of_lt pw), hsplit, Int.add_mul_ediv_left _ _ (by omega), Int.ediv_eq_zero_of_lt htk.1 htk.2, Int.zero_add]
  rw [hdiv]
  have lx := Dg.getD_bd hl w
  obtain ⟨x, hx⟩ := Int.eq_ofNat_of_zero_le lx.1
  have hx32 : x < 4294967296 := by simp only [Dg.B] at lx; omega
  have hlost : decide (Dg.val l % 2 ^ n ≠ 0) = (decide (((irows .u32 (Dg.trim (l.take w))).length : Int) > 0) || ((x % 2 ^ r : Nat) : Int) != 0) := by
    have hv : Dg.val l % 2 ^ n = Dg.val (l.take w) + Dg.B ^ w * ((x % 2 ^ r : Nat) : Int) := by
      rw [e2n, hsplit, Dg.drop_split (by omega), hx]
      have hh := htk
      rw [← hsplit] at *
      exact lost_val hr32 hh
    have htrim : (((irows .u32 (Dg.trim (l.take w))).length : Int) > 0) ↔ Dg.val (l.take w) ≠ 0 := by
      rw [irows_len, Dg.trim_mag (hl.take w)]
      have := mag_nil htk.1
      constructor
      · intro g e
        rw [this.2 e] at g
        simp at g
      · intro g
        have : Dg.mag (Dg.val (l.take w)) ≠ [] := fun e => g (this.1 e)
        have := List.length_pos_iff.2 this
        omega
    rw [hv, Bool.eq_iff_iff]
    simp only [ne_eq, decide_eq_true_eq, Bool.or_eq_true, bne_iff_ne]
    rw [htrim]
    have m0 : (0 : Int) ≤ ((x % 2 ^ r : Nat) : Int) := Int.natCast_nonneg _
    generalize ((x % 2 ^ r : Nat) : Int) = m at *
    have := Int.mul_nonneg (Int.le_of_lt pw) m0
    constructor
    · intro g
      by_cases hm : m = 0
      · left
        intro e
        exact g (by rw [e, hm]; simp)
      · exact .inr hm
    · rintro (g | g) e
      · omega
      · have : Dg.B ^ w * 1 ≤ Dg.B ^ w * m := Int.mul_le_mul_of_nonneg_left (by omega) (Int.le_of_lt pw)
        omega
  rw [hlost]
  have hts := trimmed_spec gl (l.take w) (by simp; omega)
  have e5 : ((irows .u32 l).take (w64 (Int.tdiv (n : Int) 32)).toNat).drop 0 = irows .u32 (l.take w) := by
    rw [List.drop_zero, hW, Int.toNat_natCast, irows_take]
  rw [show lim (l.take w) = AV.sl (irows .u32 (l.take w)) from rfl, ← e5] at hts
  have ix : (irows .u32 l)[(w64 (Int.tdiv (n : Int) 32)).toNat]? = some [.int .u32 (l.getD w 0)] := irows_at (by rw [hW, Int.toNat_natCast]; exact getD_some (by omega))
  have iW : 0 ≤ w64 (Int.tdiv (n : Int) 32) := by omega
  have hand : Go.bits .and .u32 (l.getD w 0) (u32 (u32 (1 * 2 ^ (min (Int.tmod (n : Int) 32).toNat IntKind.u32.bits)) - 1)) = ((x % 2 ^ r : Nat) : Int) := by
    rw [hR, Int.toNat_natCast, Nat.min_eq_left (show r ≤ IntKind.u32.bits from Nat.le_of_lt hr32), hx]
    exact mask32 hx32 hr32
  have hge : ¬ w64 (Int.tdiv (n : Int) 32) ≥ ((irows .u32 l).length : Int) := by omega
  have hle : w64 (Int.tdiv (n : Int) 32) ≤ ((irows .u32 l).length : Int) := by omega
  have hM : w64 (((irows .u32 l).length : Int) - w64 (Int.tdiv (n : Int) 32)) = ((l.length - w : Nat) : Int) := by rw [la, hW, w64_eq (by omega)]; omega
  by_cases hg : ((irows .u32 (Dg.trim (l.take w))).length : Int) > 0
  · rw [decide_eq_true hg, Bool.true_or]
    clear hlost hand
    refine spec_fn T_ok mixed_ok 0 Tryz.func82 fn_ok82 (by kernel_rfl) ?_
    refine And.intro (by decide) ?_
    refine br (fun g => absurd g hge) (fun _ => ?_)
    refine And.intro (by kernel_rfl) ?_
    repeat (first | refine gT ?_ | refine gF ?_ | refine brT ?_ | refine brF ?_ | refine And.intro rfl ?_)
    refine And.intro iW (And.intro hle (And.intro (irows_ok _ _) ?_))
    repeat (first | refine gT ?_ | refine gF ?_ | refine brT ?_ | refine brF ?_ | refine And.intro rfl ?_)
    first | refine Exists.intro _ (And.intro (hts) ?_) | refine Hn_by (Exists.intro _ (And.intro (hts) ?_))
    repeat (first | refine gT ?_ | refine gF ?_ | refine brT ?_ | refine brF ?_ | refine And.intro rfl ?_)
    refine gr (fun _ => ?_) (fun g => absurd hg g)
    repeat (first | refine gT ?_ | refine gF ?_ | refine brT ?_ | refine brF ?_ | refine And.intro rfl ?_)
    refine And.intro (show (0 : Int) ≤ w64 (((irows .u32 l).length : Int) - w64 (Int.tdiv (n : Int) 32)) by rw [hM]; omega) (And.intro (Int.le_refl _) (And.intro (show w64 (((irows .u32 l).length : Int) - w64 (Int.tdiv (n : Int) 32)) * 4 ≤ 140737488355328 by rw [hM]; omega) (And.intro (show w64 (((irows .u32 l).length : Int) - w64 (Int.tdiv (n : Int) 32)) ≤ maxLen by rw [hM]; simp [maxLen]; omega) ?_)))
    refine aw_loop (fun q : Nat × List Int => stOf [(0, lim l), (1, .int .i64 (n : Int)), (6, .int .i64 (w : Int)), (7, .bool true), (8, .ms 0 0 (l.length - w)), (44, .int .i64 ((l.length - w : Nat) : Int)), (45, .int .i64 (q.1 : Int))] [(0, .arr (94, 1) (irows .u32 q.2) true)] 1)
      (fun q => q.1 ≤ l.length - w ∧ Dg.D q.2 ∧ q.2.length = l.length - w ∧ Dg.val (q.2.take q.1) + Dg.B ^ q.1 * shrV l r (w + q.1) = shrV l r w) (fun q => l.length - w - q.1) (0, List.replicate (l.length - w) 0)
      ⟨Nat.zero_le _, Dg.D.rep _, by simp, by simp [Dg.val]⟩
      (le_by ⟨rfl, rfl, int_eq hW, rfl, (show AV.ms 0 0 (w64 (((irows .u32 l).length : Int) - w64 (Int.tdiv (n : Int) 32))).toNat = _ by rw [hM, Int.toNat_natCast]), int_eq (show (((w64 (((irows .u32 l).length : Int) - w64 (Int.tdiv (n : Int) 32))).toNat : Nat) : Int) = _ by rw [hM, Int.toNat_natCast]), rfl, trivial⟩ ⟨(show some (Blk.arr (94, 1) (List.replicate (w64 (((irows .u32 l).length : Int) - w64 (Int.tdiv (n : Int) 32))).toNat [AV.int .u32 0]) true) = _ by rw [hM, Int.toNat_natCast, irows_rep]), trivial⟩ (Nat.le_refl _)) ?_
    rintro ⟨i, o⟩ ⟨hi, ho, hol, hv⟩ P hP
    simp only at hi ho hol hv
    refine br (fun h2 => ?_) (fun h2 => ?_)
    · have hin : i < l.length - w := by have : (i : Int) < ((l.length - w : Nat) : Int) := h2; omega
      have lk := Dg.getD_bd hl (w + i)
      have lk1 := Dg.getD_bd hl (w + i + 1)
      have kI : w64 ((i : Int) + (w : Int)) = ((w + i : Nat) : Int) := by rw [w64_eq (by omega)]; omega
      have kI1 : w64 (w64 ((i : Int) + (w : Int)) + 1) = ((w + i + 1 : Nat) : Int) := by rw [kI, w64_eq (by omega)]; omega
      have i0 : 0 ≤ w64 ((i : Int) + (w : Int)) := by omega
      have i1 : 0 ≤ w64 (w64 ((i : Int) + (w : Int)) + 1) := by omega
      have il : (irows .u32 l)[(w64 ((i : Int) + (w : Int))).toNat]? = some [.int .u32 (l.getD (w + i) 0)] := irows_at (by rw [kI, Int.toNat_natCast]; exact getD_some (by omega))
      have io : (irows .u32 o)[0 + ((i : Int)).toNat]? = some [.int .u32 (o.getD i 0)] := irows_at (by rw [Nat.zero_add]; exact getD_some (by simp; omega))
      have hw2 : w64 ((i : Int) + 1) = ((i + 1 : Nat) : Int) := by rw [w64_eq (by omega)]; omega
      have hstep := shrV_step hl (k := w + i) (by omega) hr32
      have R0 : 0 ≤ Int.tmod (n : Int) 32 := by rw [hR]; omega
      have T0 : 0 ≤ l.getD (w + i) 0 + Dg.B * l.getD (w + i + 1) 0 := by simp only [Dg.B] at *; omega
      have eL : ∀ {X : Int}, X = l.getD (w + i) 0 + Dg.B * l.getD (w + i + 1) 0 → u32 (Int.fdiv X (2 ^ (min (Int.tmod (n : Int) 32).toNat IntKind.u64.bits))) = ((l.getD (w + i) 0 + Dg.B * l.getD (w + i + 1) 0) / 2 ^ r) % Dg.B := by
        intro X hX
        rw [hX, hR, Int.toNat_natCast, Nat.min_eq_left (show r ≤ IntKind.u64.bits from Nat.le_of_lt (Nat.lt_of_lt_of_le hr32 (by decide))), Int.fdiv_eq_ediv_of_nonneg _ (Int.le_of_lt p), u32_eq]
      refine And.intro i0 (Exists.intro _ (And.intro il ?_))
      refine br (fun h3 => ?_) (fun h3 => ?_)
      · have h3' : w + i + 1 < l.length := by
          have : w64 (w64 ((i : Int) + (w : Int)) + 1) < ((irows .u32 l).length : Int) := h3
          omega
        have il1 : (irows .u32 l)[(w64 (w64 ((i : Int) + (w : Int)) + 1)).toNat]? = some [.int .u32 (l.getD (w + i + 1) 0)] := irows_at (by rw [kI1, Int.toNat_natCast]; exact getD_some h3')
        have eT := or_limb2 lk lk1
        have e3 := eL eT
        refine And.intro i1 (Exists.intro _ (And.intro il1 ?_))
        refine And.intro (by decide) ?_
        refine And.intro (by decide) ?_
        refine And.intro R0 ?_
        refine And.intro (show (0 : Int) ≤ (i : Int) by omega) (And.intro (show (i : Int) < ((l.length - w : Nat) : Int) by omega) (Exists.intro _ (And.intro io ?_)))
        refine hP (i + 1, o.set i (((l.getD (w + i) 0 + Dg.B * l.getD (w + i + 1) 0) / 2 ^ r) % Dg.B)) _ (le_by ⟨rfl, rfl, rfl, rfl, rfl, rfl, int_eq hw2, trivial⟩ ⟨(show some (Blk.arr (94, 1) ((irows .u32 o).set (0 + ((i : Int)).toNat) [.int .u32 (u32 (Int.fdiv (Go.bits .or .u64 (u64 (l.getD (w + i) 0)) (u64 (u64 (l.getD (w + i + 1) 0) * 2 ^ 32))) (2 ^ (min (Int.tmod (n : Int) 32).toNat IntKind.u64.bits))))]) true) = _ by rw [e3, Nat.zero_add, Int.toNat_natCast, irows_set]), trivial⟩ (Nat.le_refl _))
          ⟨by show i + 1 ≤ l.length - w; omega, ho.set (Int.emod_nonneg _ (by decide)) (Int.emod_lt_of_pos _ (by decide)), by simp [hol], ?_⟩ (by show l.length - w - (i + 1) < l.length - w - i; omega)
        show Dg.val ((o.set i _).take (i + 1)) + Dg.B ^ (i + 1) * shrV l r (w + (i + 1)) = shrV l r w
        rw [Dg.set_take _ _ _ (by omega), ← hv, hstep, Int.pow_succ, show w + (i + 1) = w + i + 1 by omega]
        grind
      · have h3' : ¬ w + i + 1 < l.length := by
          have : ¬ w64 (w64 ((i : Int) + (w : Int)) + 1) < ((irows .u32 l).length : Int) := h3
          omega
        have z : l.getD (w + i + 1) 0 = 0 := by rw [List.getD_eq_getElem?_getD, List.getElem?_eq_none (by omega)]; rfl
        have eT : u64 (l.getD (w + i) 0) = l.getD (w + i) 0 + Dg.B * l.getD (w + i + 1) 0 := by
          rw [z, u64_in (by simp only [Dg.B] at lk; omega)]; simp
        have e3 := eL eT
        refine And.intro (by decide) ?_
        refine And.intro R0 ?_
        refine And.intro (show (0 : Int) ≤ (i : Int) by omega) (And.intro (show (i : Int) < ((l.length - w : Nat) : Int) by omega) (Exists.intro _ (And.intro io ?_)))
        refine hP (i + 1, o.set i (((l.getD (w + i) 0 + Dg.B * l.getD (w + i + 1) 0) / 2 ^ r) % Dg.B)) _ (le_by ⟨rfl, rfl, rfl, rfl, rfl, rfl, int_eq hw2, trivial⟩ ⟨(show some (Blk.arr (94, 1) ((irows .u32 o).set (0 + ((i : Int)).toNat) [.int .u32 (u32 (Int.fdiv (u64 (l.getD (w + i) 0)) (2 ^ (min (Int.tmod (n : Int) 32).toNat IntKind.u64.bits))))]) true) = _ by rw [e3, Nat.zero_add, Int.toNat_natCast, irows_set]), trivial⟩ (Nat.le_refl _))
          ⟨by show i + 1 ≤ l.length - w; omega, ho.set (Int.emod_nonneg _ (by decide)) (Int.emod_lt_of_pos _ (by decide)), by simp [hol], ?_⟩ (by show l.length - w - (i + 1) < l.length - w - i; omega)
        show Dg.val ((o.set i _).take (i + 1)) + Dg.B ^ (i + 1) * shrV l r (w + (i + 1)) = shrV l r w
        rw [Dg.set_take _ _ _ (by omega), ← hv, hstep, Int.pow_succ, show w + (i + 1) = w + i + 1 by omega]
        grind
    · have hin : i = l.length - w := by have : ¬ (i : Int) < ((l.length - w : Nat) : Int) := h2; omega
      subst hin
      clear hP
      rw [List.take_of_length_le (Nat.le_of_eq hol)] at hv
      have z : shrV l r (w + (l.length - w)) = 0 := by
        unfold shrV
        rw [List.drop_eq_nil_of_le (by omega)]
        simp [Dg.val]
      rw [z, Int.mul_zero, Int.add_zero] at hv
      rw [← hv]
      have hts2 := trimmed_spec gl o (by omega)
      rw [Dg.trim_mag ho] at hts2
      have e6 : ((irows .u32 o).drop 0).take (l.length - w) = irows .u32 o := by
        rw [List.drop_zero, List.take_of_length_le (by rw [irows_len]; omega)]
      rw [show lim o = AV.sl (irows .u32 o) from rfl, ← e6] at hts2
      refine And.intro (show 0 + (l.length - w) ≤ (irows .u32 o).length by rw [irows_len]; omega) ?_
      refine Exists.intro _ (And.intro hts2 ?_)
      exact And.intro (Or.inr rfl) rfl
  · rw [decide_eq_false hg, Bool.false_or]
    clear hlost
    refine spec_fn T_ok mixed_ok 0 Tryz.func82 fn_ok82 (by kernel_rfl) ?_
    refine And.intro (by decide) ?_
    refine br (fun g => absurd g hge) (fun _ => ?_)
    refine And.intro (by kernel_rfl) ?_
    repeat (first | refine gT ?_ | refine gF ?_ | refine brT ?_ | refine brF ?_ | refine And.intro rfl ?_)
    refine And.intro iW (And.intro hle (And.intro (irows_ok _ _) ?_))
    repeat (first | refine gT ?_ | refine gF ?_ | refine brT ?_ | refine brF ?_ | refine And.intro rfl ?_)
    first | refine Exists.intro _ (And.intro (hts) ?_) | refine Hn_by (Exists.intro _ (And.intro (hts) ?_))
    repeat (first | refine gT ?_ | refine gF ?_ | refine brT ?_ | refine brF ?_ | refine And.intro rfl ?_)
    refine gr (fun g => absurd g hg) (fun _ => ?_)
    repeat (first | refine gT ?_ | refine gF ?_ | refine brT ?_ | refine brF ?_ | refine And.intro rfl ?_)
    refine And.intro iW (Exists.intro _ (And.intro ix ?_))
    repeat (first | refine gT ?_ | refine gF ?_ | refine brT ?_ | refine brF ?_ | refine And.intro rfl ?_)
    refine And.intro (by decide) ?_
    repeat (first | refine gT ?_ | refine gF ?_ | refine brT ?_ | refine brF ?_ | refine And.intro rfl ?_)
    refine And.intro (show 0 ≤ Int.tmod (n : Int) 32 by rw [hR]; omega) ?_
    repeat (first | refine gT ?_ | refine gF ?_ | refine brT ?_ | refine brF ?_ | refine And.intro rfl ?_)
    refine And.intro (show (0 : Int) ≤ w64 (((irows .u32 l).length : Int) - w64 (Int.tdiv (n : Int) 32)) by rw [hM]; omega) (And.intro (Int.le_refl _) (And.intro (show w64 (((irows .u32 l).length : Int) - w64 (Int.tdiv (n : Int) 32)) * 4 ≤ 140737488355328 by rw [hM]; omega) (And.intro (show w64 (((irows .u32 l).length : Int) - w64 (Int.tdiv (n : Int) 32)) ≤ maxLen by rw [hM]; simp [maxLen]; omega) ?_)))
    refine aw_loop (fun q : Nat × List Int => stOf [(0, lim l), (1, .int .i64 (n : Int)), (6, .int .i64 (w : Int)), (7, .bool (((x % 2 ^ r : Nat) : Int) != 0)), (8, .ms 0 0 (l.length - w)), (44, .int .i64 ((l.length - w : Nat) : Int)), (45, .int .i64 (q.1 : Int))] [(0, .arr (94, 1) (irows .u32 q.2) true)] 1)
      (fun q => q.1 ≤ l.length - w ∧ Dg.D q.2 ∧ q.2.length = l.length - w ∧ Dg.val (q.2.take q.1) + Dg.B ^ q.1 * shrV l r (w + q.1) = shrV l r w) (fun q => l.length - w - q.1) (0, List.replicate (l.length - w) 0)
      ⟨Nat.zero_le _, Dg.D.rep _, by simp, by simp [Dg.val]⟩
      (le_by ⟨rfl, rfl, int_eq hW, (show AV.bool (Go.bits .and .u32 (l.getD w 0) (u32 (u32 (1 * 2 ^ (min (Int.tmod (n : Int) 32).toNat IntKind.u32.bits)) - 1)) != 0) = _ by rw [hand]), (show AV.ms 0 0 (w64 (((irows .u32 l).length : Int) - w64 (Int.tdiv (n : Int) 32))).toNat = _ by rw [hM, Int.toNat_natCast]), int_eq (show (((w64 (((irows .u32 l).length : Int) - w64 (Int.tdiv (n : Int) 32))).toNat : Nat) : Int) = _ by rw [hM, Int.toNat_natCast]), rfl, trivial⟩ ⟨(show some (Blk.arr (94, 1) (List.replicate (w64 (((irows .u32 l).length : Int) - w64 (Int.tdiv (n : Int) 32))).toNat [AV.int .u32 0]) true) = _ by rw [hM, Int.toNat_natCast, irows_rep]), trivial⟩ (Nat.le_refl _)) ?_
    rintro ⟨i, o⟩ ⟨hi, ho, hol, hv⟩ P hP
    simp only at hi ho hol hv
    refine br (fun h2 => ?_) (fun h2 => ?_)
    · have hin : i < l.length - w := by have : (i : Int) < ((l.length - w : Nat) : Int) := h2; omega
      have lk := Dg.getD_bd hl (w + i)
      have lk1 := Dg.getD_bd hl (w + i + 1)
      have kI : w64 ((i : Int) + (w : Int)) = ((w + i : Nat) : Int) := by rw [w64_eq (by omega)]; omega
      have kI1 : w64 (w64 ((i : Int) + (w : Int)) + 1) = ((w + i + 1 : Nat) : Int) := by rw [kI, w64_eq (by omega)]; omega
      have i0 : 0 ≤ w64 ((i : Int) + (w : Int)) := by omega
      have i1 : 0 ≤ w64 (w64 ((i : Int) + (w : Int)) + 1) := by omega
      have il : (irows .u32 l)[(w64 ((i : Int) + (w : Int))).toNat]? = some [.int .u32 (l.getD (w + i) 0)] := irows_at (by rw [kI, Int.toNat_natCast]; exact getD_some (by omega))
      have io : (irows .u32 o)[0 + ((i : Int)).toNat]? = some [.int .u32 (o.getD i 0)] := irows_at (by rw [Nat.zero_add]; exact getD_some (by simp; omega))
      have hw2 : w64 ((i : Int) + 1) = ((i + 1 : Nat) : Int) := by rw [w64_eq (by omega)]; omega
      have hstep := shrV_step hl (k := w + i) (by omega) hr32
      have R0 : 0 ≤ Int.tmod (n : Int) 32 := by rw [hR]; omega
      have T0 : 0 ≤ l.getD (w + i) 0 + Dg.B * l.getD (w + i + 1) 0 := by simp only [Dg.B] at *; omega
      have eL : ∀ {X : Int}, X = l.getD (w + i) 0 + Dg.B * l.getD (w + i + 1) 0 → u32 (Int.fdiv X (2 ^ (min (Int.tmod (n : Int) 32).toNat IntKind.u64.bits))) = ((l.getD (w + i) 0 + Dg.B * l.getD (w + i + 1) 0) / 2 ^ r) % Dg.B := by
        intro X hX
        rw [hX, hR, Int.toNat_natCast, Nat.min_eq_left (show r ≤ IntKind.u64.bits from Nat.le_of_lt (Nat.lt_of_lt_of_le hr32 (by decide))), Int.fdiv_eq_ediv_of_nonneg _ (Int.le_of_lt p), u32_eq]
      refine And.intro i0 (Exists.intro _ (And.intro il ?_))
      refine br (fun h3 => ?_) (fun h3 => ?_)
      · have h3' : w + i + 1 < l.length := by
          have : w64 (w64 ((i : Int) + (w : Int)) + 1) < ((irows .u32 l).length : Int) := h3
          omega
        have il1 : (irows .u32 l)[(w64 (w64 ((i : Int) + (w : Int)) + 1)).toNat]? = some [.int .u32 (l.getD (w + i + 1) 0)] := irows_at (by rw [kI1, Int.toNat_natCast]; exact getD_some h3')
        have eT := or_limb2 lk lk1
        have e3 := eL eT
        refine And.intro i1 (Exists.intro _ (And.intro il1 ?_))
        refine And.intro (by decide) ?_
        refine And.intro (by decide) ?_
        refine And.intro R0 ?_
        refine And.intro (show (0 : Int) ≤ (i : Int) by omega) (And.intro (show (i : Int) < ((l.length - w : Nat) : Int) by omega) (Exists.intro _ (And.intro io ?_)))
        refine hP (i + 1, o.set i (((l.getD (w + i) 0 + Dg.B * l.getD (w + i + 1) 0) / 2 ^ r) % Dg.B)) _ (le_by ⟨rfl, rfl, rfl, rfl, rfl, rfl, int_eq hw2, trivial⟩ ⟨(show some (Blk.arr (94, 1) ((irows .u32 o).set (0 + ((i : Int)).toNat) [.int .u32 (u32 (Int.fdiv (Go.bits .or .u64 (u64 (l.getD (w + i) 0)) (u64 (u64 (l.getD (w + i + 1) 0) * 2 ^ 32))) (2 ^ (min (Int.tmod (n : Int) 32).toNat IntKind.u64.bits))))]) true) = _ by rw [e3, Nat.zero_add, Int.toNat_natCast, irows_set]), trivial⟩ (Nat.le_refl _))
          ⟨by show i + 1 ≤ l.length - w; omega, ho.set (Int.emod_nonneg _ (by decide)) (Int.emod_lt_of_pos _ (by decide)), by simp [hol], ?_⟩ (by show l.length - w - (i + 1) < l.length - w - i; omega)
        show Dg.val ((o.set i _).take (i + 1)) + Dg.B ^ (i + 1) * shrV l r (w + (i + 1)) = shrV l r w
        rw [Dg.set_take _ _ _ (by omega), ← hv, hstep, Int.pow_succ, show w + (i + 1) = w + i + 1 by omega]
        grind
      · have h3' : ¬ w + i + 1 < l.length := by
          have : ¬ w64 (w64 ((i : Int) + (w : Int)) + 1) < ((irows .u32 l).length : Int) := h3
          omega
        have z : l.getD (w + i + 1) 0 = 0 := by rw [List.getD_eq_getElem?_getD, List.getElem?_eq_none (by omega)]; rfl
        have eT : u64 (l.getD (w + i) 0) = l.getD (w + i) 0 + Dg.B * l.getD (w + i + 1) 0 := by
          rw [z, u64_in (by simp only [Dg.B] at lk; omega)]; simp
        have e3 := eL eT
        refine And.intro (by decide) ?_
        refine And.intro R0 ?_
        refine And.intro (show (0 : Int) ≤ (i : Int) by omega) (And.intro (show (i : Int) < ((l.length - w : Nat) : Int) by omega) (Exists.intro _ (And.intro io ?_)))
        refine hP (i + 1, o.set i (((l.getD (w + i) 0 + Dg.B * l.getD (w + i + 1) 0) / 2 ^ r) % Dg.B)) _ (le_by ⟨rfl, rfl, rfl, rfl, rfl, rfl, int_eq hw2, trivial⟩ ⟨(show some (Blk.arr (94, 1) ((irows .u32 o).set (0 + ((i : Int)).toNat) [.int .u32 (u32 (Int.fdiv (u64 (l.getD (w + i) 0)) (2 ^ (min (Int.tmod (n : Int) 32).toNat IntKind.u64.bits))))]) true) = _ by rw [e3, Nat.zero_add, Int.toNat_natCast, irows_set]), trivial⟩ (Nat.le_refl _))
          ⟨by show i + 1 ≤ l.length - w; omega, ho.set (Int.emod_nonneg _ (by decide)) (Int.emod_lt_of_pos _ (by decide)), by simp [hol], ?_⟩ (by show l.length - w - (i + 1) < l.length - w - i; omega)
        show Dg.val ((o.set i _).take (i + 1)) + Dg.B ^ (i + 1) * shrV l r (w + (i + 1)) = shrV l r w
        rw [Dg.set_take _ _ _ (by omega), ← hv, hstep, Int.pow_succ, show w + (i + 1) = w + i + 1 by omega]
        grind
    · have hin : i = l.length - w := by have : ¬ (i : Int) < ((l.length - w : Nat) : Int) := h2; omega
      subst hin
      clear hP
      rw [List.take_of_length_le (Nat.le_of_eq hol)] at hv
      have z : shrV l r (w + (l.length - w)) = 0 := by
        unfold shrV
        rw [List.drop_eq_nil_of_le (by omega)]
        simp [Dg.val]
      rw [z, Int.mul_zero, Int.add_zero] at hv
      rw [← hv]
      have hts2 := trimmed_spec gl o (by omega)
      rw [Dg.trim_mag ho] at hts2
      have e6 : ((irows .u32 o).drop 0).take (l.length - w) = irows .u32 o := by
        rw [List.drop_zero, List.take_of_length_le (by rw [irows_len]; omega)]
      rw [show lim o = AV.sl (irows .u32 o) from rfl, ← e6] at hts2
      refine And.intro (show 0 + (l.length - w) ≤ (irows .u32 o).length by rw [irows_len]; omega) ?_
      refine Exists.intro _ (And.intro hts2 ?_)
      exact And.intro (Or.inr rfl) rfl
end Ab
