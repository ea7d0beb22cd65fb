import Derived.Test.YtinhfpljdjlomaaGreatXPath2
import Derived.Test.YtinhfpljdjlomaaGreatXSame
/-!
Equal positions and paths; copies.
-/
open Go Go.Proofs
namespace Ab
set_option maxRecDepth 100000
set_option maxHeartbeats 1000000

/-- a position all of whose numbers are valid -/
def Okp (p : Ps) : Prop := ∀ r ∈ p, Qok r
theorem psame_spec {a b : Ps} (ha : Okp a) (hb : Okp b) (hl : (a.length : Int) ≤ 9223372036854775807) : Spec Tryz.prog [] 58 [.sl a, .sl b] (.bool (same a b)) := by
  by_cases hn : a.length = b.length
  rotate_left
  · have e1 : (a.length : Int) ≠ (b.length : Int) := by omega
    rw [same_false (fun e => hn (by rw [e]))]
    refine spec_fn T_ok mixed_ok 0 Tryz.func58 fn_ok58 (by kernel_rfl) ?_
    refine brN (fun _ => ?_) (fun g => absurd g e1)
    exact And.intro (Or.inr rfl) rfl
  have e1 : (a.length : Int) = (b.length : Int) := by omega
  refine spec_fn T_ok mixed_ok 0 Tryz.func58 fn_ok58 (by kernel_rfl) ?_
  refine brN (fun g => absurd e1 g) (fun _ => ?_)
  refine aw_loop (fun i : Nat => stOf [(0, .sl a), (1, .sl b), (13, .sl a), (14, .int .i64 (a.length : Int)), (15, .int .i64 (i : Int))] [] 0) (fun i => i ≤ a.length ∧ a.take i = b.take i) (fun i => a.length - i) 0 ⟨Nat.zero_le _, rfl⟩
    (le_by ⟨rfl, rfl, rfl, rfl, rfl, trivial⟩ trivial (Nat.le_refl _)) ?_
  rintro i ⟨hi, ht⟩ P hP
  refine br (fun g => ?_) (fun g => ?_)
  · have g : i < a.length := by have : (i : Int) < (a.length : Int) := g; omega
    obtain ⟨x, hx⟩ := get_of g
    obtain ⟨y, hy⟩ := get_of (l := b) (i := i) (by omega)
    obtain ⟨n, d, rfl, q1⟩ := ha x (List.mem_of_getElem? hx)
    obtain ⟨m, f, rfl, q2⟩ := hb y (List.mem_of_getElem? hy)
    have c := ratcmp_int [] q1 q2
    refine And.intro (by kernel_rfl) ?_
    refine And.intro (Int.natCast_nonneg i) (Exists.intro _ (And.intro (nat_at hx) ?_))
    refine And.intro (Int.natCast_nonneg i) (Exists.intro _ (And.intro (nat_at hy) ?_))
    first | refine Exists.intro _ (And.intro (c) ?_) | refine Hn_by (Exists.intro _ (And.intro (c) ?_))
    refine brN (fun e => ?_) (fun e => ?_)
    · rw [same_false (fun e2 => e ((cmp_same q1 q2).2 (by subst e2; rw [hx] at hy; exact Option.some.inj hy)))]
      exact And.intro (Or.inr rfl) rfl
    · refine hP (i + 1) _ ?_ ⟨g, take_eq_succ ht hx hy ((cmp_same q1 q2).1 e)⟩ (by omega)
      refine le_by ⟨rfl, rfl, rfl, rfl, int_eq ?_, trivial⟩ trivial (Nat.le_refl _)
      exact w64_succ g hl
  · have g : ¬ i < a.length := by have : ¬ (i : Int) < (a.length : Int) := g; omega
    rw [List.take_of_length_le (by omega), List.take_of_length_le (by omega)] at ht
    rw [same_true ht]
    exact And.intro (Or.inr rfl) rfl
theorem mag_len {z : Int} (h : Fits z) : ((Dg.mag (az z)).length : Int) ≤ 9223372036854775807 := by unfold Fits at h; omega
theorem rsame_spec {a b : Ps} (ha : Okp a) (hb : QDs b) (hl : (a.length : Int) ≤ 9223372036854775807) : Spec Tryz.prog [] 55 [.sl a, .sl b] (.bool (same a b)) := by
  by_cases hn : a.length = b.length
  rotate_left
  · have e1 : (a.length : Int) ≠ (b.length : Int) := by omega
    rw [same_false (fun e => hn (by rw [e]))]
    refine spec_fn T_ok mixed_ok 0 Tryz.func55 fn_ok55 (by kernel_rfl) ?_
    refine brN (fun _ => ?_) (fun g => absurd g e1)
    exact And.intro (Or.inr rfl) rfl
  have e1 : (a.length : Int) = (b.length : Int) := by omega
  refine spec_fn T_ok mixed_ok 0 Tryz.func55 fn_ok55 (by kernel_rfl) ?_
  refine brN (fun g => absurd e1 g) (fun _ => ?_)
  refine aw_loop (fun i : Nat => stOf [(0, .sl a), (1, .sl b), (5, .int .i64 (i : Int))] [] 0) (fun i => i ≤ a.length ∧ a.take i = b.take i) (fun i => a.length - i) 0 ⟨Nat.zero_le _, rfl⟩
    (le_by ⟨rfl, rfl, rfl, trivial⟩ trivial (Nat.le_refl _)) ?_
  rintro i ⟨hi, ht⟩ P hP
  refine br (fun g => ?_) (fun g => ?_)
  · have g : i < a.length := by have : (i : Int) < (a.length : Int) := g; omega
    obtain ⟨x, hx⟩ := get_of g
    obtain ⟨y, hy⟩ := get_of (l := b) (i := i) (by omega)
    obtain ⟨n, d, rfl, q1⟩ := ha x (List.mem_of_getElem? hx)
    obtain ⟨nn, nl, dn, dl, rfl, _, _⟩ := hb y (List.mem_of_getElem? hy)
    have c := same2_spec [] (a := decide (n < 0)) (l := Dg.mag (az n)) (b := decide (d < 0)) (m := Dg.mag (az d)) (c := nn) (l' := nl) (d := dn) (m' := dl) (mag_len q1.1) (mag_len q1.2.1)
    refine And.intro (by kernel_rfl) ?_
    refine And.intro (Int.natCast_nonneg i) (Exists.intro _ (And.intro (nat_at hx) ?_))
    refine And.intro (Int.natCast_nonneg i) (Exists.intro _ (And.intro (nat_at hy) ?_))
    by_cases e : (qr n d) = [.bool nn, lim nl, .bool dn, lim dl]
    · rw [same_true e] at c
      first | refine Exists.intro _ (And.intro (c) ?_) | refine Hn_by (Exists.intro _ (And.intro (c) ?_))
      repeat (first | refine gT ?_ | refine gF ?_ | refine brT ?_ | refine brF ?_)
      refine hP (i + 1) _ ?_ ⟨g, take_eq_succ ht hx hy e⟩ (by omega)
      refine le_by ⟨rfl, rfl, int_eq ?_, trivial⟩ trivial (Nat.le_refl _)
      exact w64_succ g hl
    · rw [same_false e] at c
      first | refine Exists.intro _ (And.intro (c) ?_) | refine Hn_by (Exists.intro _ (And.intro (c) ?_))
      repeat (first | refine gT ?_ | refine gF ?_ | refine brT ?_ | refine brF ?_)
      rw [same_false (fun e2 => e (by subst e2; rw [hx] at hy; exact Option.some.inj hy))]
      exact And.intro (Or.inr rfl) rfl
  · have g : ¬ i < a.length := by have : ¬ (i : Int) < (a.length : Int) := g; omega
    rw [List.take_of_length_le (by omega), List.take_of_length_le (by omega)] at ht
    rw [same_true ht]
    exact And.intro (Or.inr rfl) rfl
/-- corners all of whose numbers are valid -/
def Okc (c : List Ps) : Prop := ∀ p ∈ c, Okp p ∧ (p.length : Int) ≤ 9223372036854775807
theorem Okc.qd {c : List Ps} (h : Okc c) : QDc c := fun p hp => ⟨fun r hr => by
  obtain ⟨n, d, rfl, _⟩ := (h p hp).1 r hr
  exact ⟨_, _, _, _, rfl, Dg.magD _, Dg.magD _⟩, (h p hp).2⟩
theorem paths_spec {a b : List Ps} (ha : Okc a) (hb : QDc b) (hl : (a.length : Int) ≤ 9223372036854775807) : Spec Tryz.prog [] 23 [pthv a, pthv b] (.bool (same a b)) := by
  have la : ((prow a).length : Int) = a.length := by rw [prow_len]
  have lb : ((prow b).length : Int) = b.length := by rw [prow_len]
  by_cases hn : a.length = b.length
  rotate_left
  · have e1 : ((prow a).length : Int) ≠ ((prow b).length : Int) := by omega
    rw [same_false (fun e => hn (by rw [e]))]
    refine spec_fn T_ok mixed_ok 0 Tryz.func23 fn_ok23 (by kernel_rfl) ?_
    refine brN (fun _ => ?_) (fun g => absurd g e1)
    exact And.intro (Or.inr rfl) rfl
  have e1 : ((prow a).length : Int) = ((prow b).length : Int) := by omega
  refine spec_fn T_ok mixed_ok 0 Tryz.func23 fn_ok23 (by kernel_rfl) ?_
  refine brN (fun g => absurd e1 g) (fun _ => ?_)
  refine aw_loop (fun i : Nat => stOf [(0, pthv a), (1, pthv b), (5, .int .i64 (i : Int))] [] 0) (fun i => i ≤ a.length ∧ a.take i = b.take i) (fun i => a.length - i) 0 ⟨Nat.zero_le _, rfl⟩
    (le_by ⟨rfl, rfl, rfl, trivial⟩ trivial (Nat.le_refl _)) ?_
  rintro i ⟨hi, ht⟩ P hP
  refine br (fun g => ?_) (fun g => ?_)
  · have g : i < a.length := by have : (i : Int) < ((prow a).length : Int) := g; omega
    obtain ⟨x, hx⟩ := get_of g
    obtain ⟨y, hy⟩ := get_of (l := b) (i := i) (by omega)
    have c := rsame_spec (ha x (List.mem_of_getElem? hx)).1 (hb y (List.mem_of_getElem? hy)).1 (ha x (List.mem_of_getElem? hx)).2
    refine And.intro (by kernel_rfl) ?_
    refine And.intro (Int.natCast_nonneg i) (Exists.intro _ (And.intro (prow_at hx) ?_))
    refine And.intro (Int.natCast_nonneg i) (Exists.intro _ (And.intro (prow_at hy) ?_))
    by_cases e : x = y
    · rw [same_true e] at c
      first | refine Exists.intro _ (And.intro (c) ?_) | refine Hn_by (Exists.intro _ (And.intro (c) ?_))
      repeat (first | refine gT ?_ | refine gF ?_ | refine brT ?_ | refine brF ?_)
      refine hP (i + 1) _ ?_ ⟨g, take_eq_succ ht hx hy e⟩ (by omega)
      refine le_by ⟨rfl, rfl, int_eq ?_, trivial⟩ trivial (Nat.le_refl _)
      exact w64_succ g hl
    · rw [same_false e] at c
      first | refine Exists.intro _ (And.intro (c) ?_) | refine Hn_by (Exists.intro _ (And.intro (c) ?_))
      repeat (first | refine gT ?_ | refine gF ?_ | refine brT ?_ | refine brF ?_)
      rw [same_false (fun e2 => e (by subst e2; rw [hx] at hy; exact Option.some.inj hy))]
      exact And.intro (Or.inr rfl) rfl
  · have g : ¬ i < a.length := by have : ¬ (i : Int) < ((prow a).length : Int) := g; omega
    rw [List.take_of_length_le (by omega), List.take_of_length_le (by omega)] at ht
    rw [same_true ht]
    exact And.intro (Or.inr rfl) rfl
theorem few_spec {c : List Ps} (hl : (c.length : Int) ≤ 9223372036854775807) : ∃ b, Spec Tryz.prog [] 24 [pthv c] (.bool b) := by
  have lc : ((prow c).length : Int) = c.length := by rw [prow_len]
  let f : Nat → Int := fun i => (c.take i).foldl (fun n p => w64 (n + (p.length : Int))) 0
  refine ⟨decide (f c.length ≤ 2000), ?_⟩
  refine spec_fn T_ok mixed_ok 0 Tryz.func24 fn_ok24 (by kernel_rfl) ?_
  refine aw_loop (fun i : Nat => stOf [(0, pthv c), (3, .int .i64 (f i)), (4, .int .i64 (i : Int))] [] 0) (fun i => i ≤ c.length) (fun i => c.length - i) 0 (Nat.zero_le _)
    (le_by ⟨rfl, rfl, rfl, trivial⟩ trivial (Nat.le_refl _)) ?_
  rintro i hi P hP
  refine br (fun g => ?_) (fun g => ?_)
  · have g : i < c.length := by have : (i : Int) < ((prow c).length : Int) := g; omega
    obtain ⟨x, hx⟩ := get_of g
    refine And.intro (Int.natCast_nonneg i) (Exists.intro _ (And.intro (prow_at hx) ?_))
    refine hP (i + 1) _ ?_ g (by omega)
    refine le_by ⟨rfl, int_eq ?_, int_eq ?_, trivial⟩ trivial (Nat.le_refl _)
    · show w64 (f i + (x.length : Int)) = (c.take (i + 1)).foldl (fun n p => w64 (n + (p.length : Int))) 0
      rw [List.take_add_one, hx, List.foldl_append]
      rfl
    · exact w64_succ g hl
  · have g : ¬ i < c.length := by have : ¬ (i : Int) < ((prow c).length : Int) := g; omega
    have e : i = c.length := by omega
    subst e
    exact And.intro (Or.inr rfl) rfl
end Ab
