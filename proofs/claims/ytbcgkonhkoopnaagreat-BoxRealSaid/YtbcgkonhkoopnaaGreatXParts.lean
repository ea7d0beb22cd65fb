import Derived.Test.YtbcgkonhkoopnaaGreatXDiv64
/-!
The contracts of quotient, parts.
-/
open Go Go.Proofs
namespace Ab
set_option maxRecDepth 100000
set_option maxHeartbeats 1000000

theorem lg_nat (n : Nat) : lg (n : Int) = .agg [.int .u64 ((n / 2 ^ 64 : Nat) : Int), .int .u64 ((n % 2 ^ 64 : Nat) : Int)] := by
  unfold lg
  rw [show (n : Int) / 18446744073709551616 = ((n / 2 ^ 64 : Nat) : Int) by omega, show (n : Int) % 18446744073709551616 = ((n % 2 ^ 64 : Nat) : Int) by omega]
theorem shl23_spec (n : Nat) (hn : n < 2 ^ 64) : Spec Tryz.prog [] 64 [.int .u64 (n : Int), .int .u64 23] (lg ((n * 8388608 : Nat) : Int)) := by
  have := shifted23_spec (n : Int) ⟨by omega, by omega⟩
  rwa [show (n : Int) * 8388608 = ((n * 8388608 : Nat) : Int) by omega] at this

theorem up_div {M d : Nat} (hd : 0 < d) : (M + (d - 1)) / d = if M % d = 0 then M / d else M / d + 1 := by
  have h1 := Nat.div_add_mod M d
  have h2 := Nat.mod_lt M hd
  generalize M % d = r at h1 h2 ⊢
  generalize M / d = q at h1 ⊢
  split
  · rename_i h
    subst h
    rw [← h1, Nat.add_zero, Nat.add_comm, Nat.add_mul_div_left _ _ hd, Nat.div_eq_of_lt (by omega), Nat.zero_add]
  · rw [← h1, show d * q + r + (d - 1) = (r - 1) + d * (q + 1) by rw [Nat.mul_add, Nat.mul_one]; omega, Nat.add_mul_div_left _ _ hd, Nat.div_eq_of_lt (by omega), Nat.zero_add]
theorem neT {r : Nat} (h : (bif true then ((r : Int) != 0) else false) = true) : r ≠ 0 := by
  intro e
  subst e
  cases h
theorem neF {r : Nat} (h : (bif true then ((r : Int) != 0) else false) = false) : r = 0 := by
  have : ((r : Int) != 0) = false := h
  simpa using this
def quoF (n d : Nat) (up : Bool) : Nat := match up with | true => (n * 8388608 + (d - 1)) / d | false => n * 8388608 / d
theorem quo_spec (n d : Nat) (up : Bool) (h1 : n < 2 ^ 64) (hd : n * 8388608 / 2 ^ 64 < d) (hd2 : d < 2 ^ 63) (hq : n * 8388608 / d + 1 < 2 ^ 63) : Spec Tryz.prog [] 134 [.int .u64 (n : Int), .int .i64 (d : Int), .bool up] (.int .i64 (quoF n d up : Int)) := by
  have s1 := shl23_spec n h1
  rw [lg_nat] at s1
  have s2 := div64_spec (n * 8388608 / 2 ^ 64) (n * 8388608 % 2 ^ 64) d hd (lt_mod _) (by omega)
  rw [show n * 8388608 / 2 ^ 64 * 2 ^ 64 + n * 8388608 % 2 ^ 64 = n * 8388608 by rw [Nat.mul_comm]; exact Nat.div_add_mod _ _] at s2
  have e : IntKind.u64.wrap (d : Int) = (d : Int) := by rw [u64_mod]; omega
  rw [← e] at s2
  have hd0 : 0 < d := by omega
  have hu := up_div (M := n * 8388608) hd0
  unfold quoF
  rw [hu]
  clear hu e hd h1 hd2
  generalize n * 8388608 / 2 ^ 64 = hi at s1 s2
  generalize n * 8388608 % 2 ^ 64 = lo at s1 s2
  generalize n * 8388608 / d = q at s2 hq ⊢
  generalize n * 8388608 % d = r at s2 ⊢
  have f1 : IntKind.i64.wrap (q : Int) = q := w64_eq (by omega)
  have f2 : IntKind.u64.wrap ((q : Int) + 1) = ((q + 1 : Nat) : Int) := by rw [u64_mod]; omega
  have f3 : IntKind.i64.wrap ((q + 1 : Nat) : Int) = ((q + 1 : Nat) : Int) := w64_eq (by omega)
  cases up with
  | false =>
    refine spec_fn T_ok mixed_ok 1 Tryz.func134 fn_ok134 (by kernel_rfl) ?_
    first | refine Exists.intro _ (And.intro (s1) ?_) | refine Hn_by (Exists.intro _ (And.intro (s1) ?_))
    first | refine Exists.intro _ (And.intro (s2) ?_) | refine Hn_by (Exists.intro _ (And.intro (s2) ?_))
    repeat (first | refine gT ?_ | refine gF ?_ | refine brT ?_ | refine brF ?_)
    exact And.intro (Or.inr rfl) (int_eq f1)
  | true =>
    refine spec_fn T_ok mixed_ok 1 Tryz.func134 fn_ok134 (by kernel_rfl) ?_
    first | refine Exists.intro _ (And.intro (s1) ?_) | refine Hn_by (Exists.intro _ (And.intro (s1) ?_))
    first | refine Exists.intro _ (And.intro (s2) ?_) | refine Hn_by (Exists.intro _ (And.intro (s2) ?_))
    refine brT ?_
    refine brT ?_
    refine brB (fun h => ?_) (fun h => ?_)
    · have h' : r ≠ 0 := neT h
      refine And.intro (Or.inr rfl) (int_eq (Eq.trans (congrArg IntKind.i64.wrap f2) (Eq.trans f3 ?_)))
      simp only
      rw [if_neg h']
    · have h' : r = 0 := neF h
      refine And.intro (Or.inr rfl) (int_eq (Eq.trans f1 ?_))
      simp only
      rw [if_pos h']

/-! bounds -/
def Sm (x : Int) : Prop := -MF ≤ x ∧ x ≤ MF
structure Bnd (x y : Int) : Prop where
  X : x.natAbs ≤ 2 ^ 60
  Y : y.natAbs ≤ 2 ^ 60
  N : nrm x y < 2 ^ 124
  a : isq (nrm x y) < 2 ^ 61
  b : csq (nrm x y) ≤ 2 ^ 61
  pa : (isq (nrm x y) + x.natAbs) * 8388608 < 2 ^ 124
  pb : (csq (nrm x y) + x.natAbs) * 8388608 < 2 ^ 124
  pl : 0 < pLo x y ∧ pLo x y ≤ pHi x y
  ph : pHi x y < 2 ^ 44
  hl : y.natAbs * 8388608 / 2 ^ 64 < pLo x y
  ql : y.natAbs * 8388608 / pLo x y ≤ pLo x y + 2
  qh : y.natAbs * 8388608 / pHi x y ≤ pLo x y + 2
theorem quo_le {M p : Nat} (hp : 0 < p) (h : M < (p + 1) * (p + 1)) : M / p ≤ p + 2 := by
  refine Nat.le_of_lt_succ ((Nat.div_lt_iff_lt_mul hp).2 ?_)
  have e : (p + 1) * (p + 1) = p * p + 2 * p + 1 := by rw [Nat.add_mul, Nat.mul_add, Nat.mul_one, Nat.one_mul]; omega
  have e2 : (p + 2).succ * p = p * p + 3 * p := by rw [Nat.succ_eq_add_one, Nat.add_assoc, Nat.add_mul]
  omega
theorem hi_lt {M p : Nat} (hp : 0 < p) (h : M < (p + 1) * (p + 1)) (hM : M ≤ 9671406556917033397649408) : M / 18446744073709551616 < p := by
  by_cases h2 : p < 4294967296
  · have : (p + 1) * (p + 1) ≤ 4294967296 * 4294967296 := Nat.mul_le_mul h2 h2
    have : M / 18446744073709551616 = 0 := Nat.div_eq_of_lt (by omega)
    omega
  · omega
theorem p86 {a X : Nat} (h : a ≤ 2 ^ 61) (hX : X ≤ 2 ^ 60) : (a + X) * 8388608 < 2 ^ 86 := by omega
theorem bnd {x y : Int} (hx : Sm x) (hy : Sm y) (h : x ≠ 0 ∨ y ≠ 0) : Bnd x y := by
  have pl0 := pLo_pos h
  obtain ⟨x1, x2⟩ := hx
  obtain ⟨y1, y2⟩ := hy
  unfold MF at x1 x2 y1 y2
  have X : x.natAbs ≤ 2 ^ 60 := by omega
  have Y : y.natAbs ≤ 2 ^ 60 := by omega
  have hYN : y.natAbs * y.natAbs ≤ nrm x y := by unfold nrm; omega
  have N : nrm x y ≤ 2 ^ 121 := by
    unfold nrm
    have a := Nat.mul_le_mul X X
    have b := Nat.mul_le_mul Y Y
    have e : 2 ^ 60 * 2 ^ 60 + 2 ^ 60 * 2 ^ 60 = 2 ^ 121 := by decide
    omega
  have hi := isq_ok (nrm x y)
  have hc := csq_ok (nrm x y)
  have a : isq (nrm x y) < 2 ^ 61 := Nat.mul_self_lt_mul_self_iff.1 (Nat.lt_of_le_of_lt hi.1 (Nat.lt_of_le_of_lt N (by decide)))
  have b : csq (nrm x y) ≤ 2 ^ 61 := Nat.le_trans hc.2.2 a
  have hYa : y.natAbs ≤ isq (nrm x y) := by
    have : y.natAbs < isq (nrm x y) + 1 := Nat.mul_self_lt_mul_self_iff.1 (Nat.lt_of_le_of_lt hYN hi.2)
    omega
  have N' : nrm x y < 2 ^ 124 := Nat.lt_of_le_of_lt N (by decide)
  have pi := isq_ok ((isq (nrm x y) + x.natAbs) * 8388608)
  have pc := csq_ok ((csq (nrm x y) + x.natAbs) * 8388608)
  have pm : isq ((isq (nrm x y) + x.natAbs) * 8388608) ≤ isq ((csq (nrm x y) + x.natAbs) * 8388608) := isq_mono (Nat.mul_le_mul_right _ (by omega))
  have pi2 := isq_ok ((csq (nrm x y) + x.natAbs) * 8388608)
  have ep : pLo x y = isq ((isq (nrm x y) + x.natAbs) * 8388608) := rfl
  have eh : pHi x y = csq ((csq (nrm x y) + x.natAbs) * 8388608) := rfl
  rw [← ep] at pi pm
  rw [← eh] at pc
  clear hi hc
  have pa := p86 (Nat.le_of_lt a) X
  have pb := p86 b X
  have h43 : isq ((csq (nrm x y) + x.natAbs) * 8388608) < 2 ^ 43 := Nat.mul_self_lt_mul_self_iff.1 (Nat.lt_of_le_of_lt pi2.1 (Nat.lt_of_lt_of_le pb (by decide)))
  have hM : y.natAbs * 8388608 < (pLo x y + 1) * (pLo x y + 1) := Nat.lt_of_le_of_lt (Nat.mul_le_mul_right _ (by omega)) pi.2
  have hlh : pLo x y ≤ pHi x y := Nat.le_trans pm pc.2.1
  have ql := quo_le pl0 hM
  refine ⟨X, Y, N', a, b, Nat.lt_trans pa (by decide), Nat.lt_trans pb (by decide), ⟨pl0, hlh⟩, ?_, hi_lt pl0 hM ?_, ql, Nat.le_trans (Nat.div_le_div_left hlh pl0) ql⟩
  · have := pc.2.2
    omega
  · have : y.natAbs * 8388608 ≤ 2 ^ 60 * 8388608 := Nat.mul_le_mul_right _ Y
    exact Nat.le_trans this (by decide)
end Ab
