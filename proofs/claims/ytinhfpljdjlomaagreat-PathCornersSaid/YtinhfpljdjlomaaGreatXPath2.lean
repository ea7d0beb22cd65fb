import Derived.Test.YtinhfpljdjlomaaGreatXPath1
/-!
Check, isPath; equal positions.
-/
open Go Go.Proofs
namespace Ab
set_option maxRecDepth 100000
set_option maxHeartbeats 1000000

def QDc (c : List Ps) : Prop := ∀ p ∈ c, QDs p ∧ (p.length : Int) ≤ 9223372036854775807
noncomputable def posB (n : Int) (p : Ps) : Bool := p.all qB && ((p.length : Int) == n)
noncomputable def chkF (c : List Ps) (n : Int) : Int := if n < 0 ∨ n > 20 then 1 else if (c.length : Int) < 1 ∨ (c.length : Int) > 24 then 170 else if c.all (posB n) = true then 0 else 170

theorem check_spec {c : List Ps} {n : Int} (h : QDc c) : Spec Tryz.prog [] 29 [pthv c, .int .i64 n] (.int .i64 (chkF c n)) := by
    have lp : ((prow c).length : Int) = c.length := by rw [prow_len]
    by_cases h1 : n < 0
    · rw [show chkF c n = 1 by unfold chkF; rw [if_pos (.inl h1)]]
      refine spec_fn T_ok mixed_ok 0 Tryz.func29 fn_ok29 (by kernel_rfl) ?_
      refine gr (fun _ => ?_) (fun g => absurd h1 g)
      repeat (first | refine gT ?_ | refine gF ?_ | refine brT ?_ | refine brF ?_)
      exact And.intro (Or.inr rfl) rfl
    by_cases h2 : n > 20
    · rw [show chkF c n = 1 by unfold chkF; rw [if_pos (.inr h2)]]
      refine spec_fn T_ok mixed_ok 0 Tryz.func29 fn_ok29 (by kernel_rfl) ?_
      refine gr (fun g => absurd g h1) (fun _ => ?_)
      repeat (first | refine gT ?_ | refine gF ?_ | refine brT ?_ | refine brF ?_)
      refine br (fun _ => ?_) (fun g => absurd h2 g)
      exact And.intro (Or.inr rfl) rfl
    by_cases h3 : (c.length : Int) < 1
    · rw [show chkF c n = 170 by unfold chkF; rw [if_neg (by omega), if_pos (.inl h3)]]
      refine spec_fn T_ok mixed_ok 0 Tryz.func29 fn_ok29 (by kernel_rfl) ?_
      refine gr (fun g => absurd g h1) (fun _ => ?_)
      repeat (first | refine gT ?_ | refine gF ?_ | refine brT ?_ | refine brF ?_)
      refine br (fun g => absurd g h2) (fun _ => ?_)
      refine gr (fun _ => ?_) (fun g => absurd (show ((prow c).length : Int) < 1 by omega) g)
      repeat (first | refine gT ?_ | refine gF ?_ | refine brT ?_ | refine brF ?_)
      exact And.intro (Or.inr rfl) rfl
    by_cases h4 : (c.length : Int) > 24
    · rw [show chkF c n = 170 by unfold chkF; rw [if_neg (by omega), if_pos (.inr h4)]]
      refine spec_fn T_ok mixed_ok 0 Tryz.func29 fn_ok29 (by kernel_rfl) ?_
      refine gr (fun g => absurd g h1) (fun _ => ?_)
      repeat (first | refine gT ?_ | refine gF ?_ | refine brT ?_ | refine brF ?_)
      refine br (fun g => absurd g h2) (fun _ => ?_)
      refine gr (fun g => absurd (show (c.length : Int) < 1 by rw [← lp]; exact g) h3) (fun _ => ?_)
      repeat (first | refine gT ?_ | refine gF ?_ | refine brT ?_ | refine brF ?_)
      refine br (fun _ => ?_) (fun g => absurd (show ((prow c).length : Int) > 24 by omega) g)
      exact And.intro (Or.inr rfl) rfl
    refine spec_fn T_ok mixed_ok 0 Tryz.func29 fn_ok29 (by kernel_rfl) ?_
    refine gr (fun g => absurd g h1) (fun _ => ?_)
    repeat (first | refine gT ?_ | refine gF ?_ | refine brT ?_ | refine brF ?_)
    refine br (fun g => absurd g h2) (fun _ => ?_)
    refine gr (fun g => absurd (show (c.length : Int) < 1 by rw [← lp]; exact g) h3) (fun _ => ?_)
    repeat (first | refine gT ?_ | refine gF ?_ | refine brT ?_ | refine brF ?_)
    refine br (fun g => absurd (show (c.length : Int) > 24 by rw [← lp]; exact g) h4) (fun _ => ?_)
    refine aw_loopN 0 (fun i : Nat => stOf [(0, pthv c), (1, .int .i64 n), (21, pthv c), (22, .int .i64 ((prow c).length : Int)), (23, .int .i64 (i : Int))] [] 0) (fun i => i ≤ c.length ∧ (c.take i).all (posB n) = true) (fun i => c.length - i) 0 ⟨Nat.zero_le _, rfl⟩
      (.inl (le_by ⟨rfl, rfl, rfl, rfl, rfl, trivial⟩ trivial (Nat.le_refl _))) (by kernel_rfl) ?_
    rintro i ⟨hi, hall⟩ P hP
    refine br (fun g => ?_) (fun g => ?_)
    · have g : i < c.length := by have : (i : Int) < ((prow c).length : Int) := g; omega
      obtain ⟨p, hp⟩ := get_of g
      obtain ⟨h5, h6⟩ := h p (List.mem_of_getElem? hp)
      have v := pvalid_spec (n := n) h5 h6
      refine And.intro (Int.natCast_nonneg i) (Exists.intro _ (And.intro (prow_at hp) ?_))
      rw [show (p.all qB && ((p.length : Int) == n)) = posB n p from rfl] at v
      cases hb : posB n p with
      | true =>
        rw [hb] at v
        first | refine Exists.intro _ (And.intro (v) ?_) | refine Hn_by (Exists.intro _ (And.intro (v) ?_))
        repeat (first | refine gT ?_ | refine gF ?_ | refine brT ?_ | refine brF ?_)
        refine hP (i + 1) _ ?_ ⟨g, by rw [all_succ hp, hall, hb]; rfl⟩ (by omega)
        refine .inl (le_by ⟨rfl, rfl, rfl, rfl, int_eq ?_, trivial⟩ trivial (Nat.le_refl _))
        exact w64_succ g (by omega)
      | false =>
        rw [hb] at v
        first | refine Exists.intro _ (And.intro (v) ?_) | refine Hn_by (Exists.intro _ (And.intro (v) ?_))
        repeat (first | refine gT ?_ | refine gF ?_ | refine brT ?_ | refine brF ?_)
        refine And.intro (Or.inr rfl) (int_eq ?_)
        unfold chkF
        rw [if_neg (by omega), if_neg (by omega), if_neg (by rw [all_false hp hb]; decide)]
    · have g : ¬ i < c.length := by have : ¬ (i : Int) < ((prow c).length : Int) := g; omega
      have e : i = c.length := by omega
      subst e
      rw [List.take_length] at hall
      refine And.intro (Or.inr rfl) (int_eq ?_)
      unfold chkF
      rw [if_neg (by omega), if_neg (by omega), if_pos hall]
theorem rcheck_spec {c : List Ps} {n : Int} (h : QDc c) : Spec Tryz.prog [] 30 [pthv c, .int .i64 n] (.int .i64 (chkF c n)) := by
    have lp : ((prow c).length : Int) = c.length := by rw [prow_len]
    by_cases h1 : n < 0
    · rw [show chkF c n = 1 by unfold chkF; rw [if_pos (.inl h1)]]
      refine spec_fn T_ok mixed_ok 0 Tryz.func30 fn_ok30 (by kernel_rfl) ?_
      refine gr (fun _ => ?_) (fun g => absurd h1 g)
      repeat (first | refine gT ?_ | refine gF ?_ | refine brT ?_ | refine brF ?_)
      exact And.intro (Or.inr rfl) rfl
    by_cases h2 : n > 20
    · rw [show chkF c n = 1 by unfold chkF; rw [if_pos (.inr h2)]]
      refine spec_fn T_ok mixed_ok 0 Tryz.func30 fn_ok30 (by kernel_rfl) ?_
      refine gr (fun g => absurd g h1) (fun _ => ?_)
      repeat (first | refine gT ?_ | refine gF ?_ | refine brT ?_ | refine brF ?_)
      refine br (fun _ => ?_) (fun g => absurd h2 g)
      exact And.intro (Or.inr rfl) rfl
    by_cases h3 : (c.length : Int) < 1
    · rw [show chkF c n = 170 by unfold chkF; rw [if_neg (by omega), if_pos (.inl h3)]]
      refine spec_fn T_ok mixed_ok 0 Tryz.func30 fn_ok30 (by kernel_rfl) ?_
      refine gr (fun g => absurd g h1) (fun _ => ?_)
      repeat (first | refine gT ?_ | refine gF ?_ | refine brT ?_ | refine brF ?_)
      refine br (fun g => absurd g h2) (fun _ => ?_)
      refine gr (fun _ => ?_) (fun g => absurd (show ((prow c).length : Int) < 1 by omega) g)
      repeat (first | refine gT ?_ | refine gF ?_ | refine brT ?_ | refine brF ?_)
      exact And.intro (Or.inr rfl) rfl
    by_cases h4 : (c.length : Int) > 24
    · rw [show chkF c n = 170 by unfold chkF; rw [if_neg (by omega), if_pos (.inr h4)]]
      refine spec_fn T_ok mixed_ok 0 Tryz.func30 fn_ok30 (by kernel_rfl) ?_
      refine gr (fun g => absurd g h1) (fun _ => ?_)
      repeat (first | refine gT ?_ | refine gF ?_ | refine brT ?_ | refine brF ?_)
      refine br (fun g => absurd g h2) (fun _ => ?_)
      refine gr (fun g => absurd (show (c.length : Int) < 1 by rw [← lp]; exact g) h3) (fun _ => ?_)
      repeat (first | refine gT ?_ | refine gF ?_ | refine brT ?_ | refine brF ?_)
      refine br (fun _ => ?_) (fun g => absurd (show ((prow c).length : Int) > 24 by omega) g)
      exact And.intro (Or.inr rfl) rfl
    refine spec_fn T_ok mixed_ok 0 Tryz.func30 fn_ok30 (by kernel_rfl) ?_
    refine gr (fun g => absurd g h1) (fun _ => ?_)
    repeat (first | refine gT ?_ | refine gF ?_ | refine brT ?_ | refine brF ?_)
    refine br (fun g => absurd g h2) (fun _ => ?_)
    refine gr (fun g => absurd (show (c.length : Int) < 1 by rw [← lp]; exact g) h3) (fun _ => ?_)
    repeat (first | refine gT ?_ | refine gF ?_ | refine brT ?_ | refine brF ?_)
    refine br (fun g => absurd (show (c.length : Int) > 24 by rw [← lp]; exact g) h4) (fun _ => ?_)
    refine aw_loopN 0 (fun i : Nat => stOf [(0, pthv c), (1, .int .i64 n), (5, .int .i64 (i : Int))] [] 0) (fun i => i ≤ c.length ∧ (c.take i).all (posB n) = true) (fun i => c.length - i) 0 ⟨Nat.zero_le _, rfl⟩
      (.inl (le_by ⟨rfl, rfl, rfl, trivial⟩ trivial (Nat.le_refl _))) (by kernel_rfl) ?_
    rintro i ⟨hi, hall⟩ P hP
    refine br (fun g => ?_) (fun g => ?_)
    · have g : i < c.length := by have : (i : Int) < ((prow c).length : Int) := g; omega
      obtain ⟨p, hp⟩ := get_of g
      obtain ⟨h5, h6⟩ := h p (List.mem_of_getElem? hp)
      have v := position_spec (n := n) h5 h6
      refine And.intro (Int.natCast_nonneg i) (Exists.intro _ (And.intro (prow_at hp) ?_))
      rw [show (p.all qB && ((p.length : Int) == n)) = posB n p from rfl] at v
      cases hb : posB n p with
      | true =>
        rw [hb] at v
        first | refine Exists.intro _ (And.intro (v) ?_) | refine Hn_by (Exists.intro _ (And.intro (v) ?_))
        repeat (first | refine gT ?_ | refine gF ?_ | refine brT ?_ | refine brF ?_)
        refine hP (i + 1) _ ?_ ⟨g, by rw [all_succ hp, hall, hb]; rfl⟩ (by omega)
        refine .inl (le_by ⟨rfl, rfl, int_eq ?_, trivial⟩ trivial (Nat.le_refl _))
        exact w64_succ g (by omega)
      | false =>
        rw [hb] at v
        first | refine Exists.intro _ (And.intro (v) ?_) | refine Hn_by (Exists.intro _ (And.intro (v) ?_))
        repeat (first | refine gT ?_ | refine gF ?_ | refine brT ?_ | refine brF ?_)
        refine And.intro (Or.inr rfl) (int_eq ?_)
        unfold chkF
        rw [if_neg (by omega), if_neg (by omega), if_neg (by rw [all_false hp hb]; decide)]
    · have g : ¬ i < c.length := by have : ¬ (i : Int) < ((prow c).length : Int) := g; omega
      have e : i = c.length := by omega
      subst e
      rw [List.take_length] at hall
      refine And.intro (Or.inr rfl) (int_eq ?_)
      unfold chkF
      rw [if_neg (by omega), if_neg (by omega), if_pos hall]
noncomputable def pathB : List Ps → Bool
  | [] => false
  | p :: c => chkF (p :: c) (p.length : Int) == 0
theorem isPath_spec {c : List Ps} (h : QDc c) : Spec Tryz.prog [] 56 [pthv c] (.bool (pathB c)) := by
    match c with
    | [] =>
      refine spec_fn T_ok mixed_ok 0 Tryz.func56 fn_ok56 (by kernel_rfl) ?_
      repeat (first | refine gT ?_ | refine gF ?_ | refine brT ?_ | refine brF ?_)
      exact And.intro (Or.inr rfl) rfl
    | p :: c =>
      have v := check_spec (n := (p.length : Int)) h
      have hw : decide (((prow (p :: c)).length : Int) > 0) = true := decide_eq_true (by rw [prow_len, List.length_cons]; omega)
      refine spec_fn T_ok mixed_ok 0 Tryz.func56 fn_ok56 (by kernel_rfl) ?_
      refine And.intro (fun _ => ?_) (fun e => absurd (hw.symm.trans e) (by decide))
      repeat (first | refine gT ?_ | refine gF ?_ | refine brT ?_ | refine brF ?_)
      refine And.intro (Int.le_refl 0) (Exists.intro _ (And.intro rfl ?_))
      repeat (first | refine gT ?_ | refine gF ?_ | refine brT ?_ | refine brF ?_)
      first | refine Exists.intro _ (And.intro (v) ?_) | refine Hn_by (Exists.intro _ (And.intro (v) ?_))
      repeat (first | refine gT ?_ | refine gF ?_ | refine brT ?_ | refine brF ?_)
      exact And.intro (Or.inr rfl) rfl
theorem risPath_spec {c : List Ps} (h : QDc c) : Spec Tryz.prog [] 57 [pthv c] (.bool (pathB c)) := by
    match c with
    | [] =>
      refine spec_fn T_ok mixed_ok 0 Tryz.func57 fn_ok57 (by kernel_rfl) ?_
      repeat (first | refine gT ?_ | refine gF ?_ | refine brT ?_ | refine brF ?_)
      exact And.intro (Or.inr rfl) rfl
    | p :: c =>
      have v := rcheck_spec (n := (p.length : Int)) h
      have hw : decide (((prow (p :: c)).length : Int) > 0) = true := decide_eq_true (by rw [prow_len, List.length_cons]; omega)
      refine spec_fn T_ok mixed_ok 0 Tryz.func57 fn_ok57 (by kernel_rfl) ?_
      refine And.intro (fun _ => ?_) (fun e => absurd (hw.symm.trans e) (by decide))
      repeat (first | refine gT ?_ | refine gF ?_ | refine brT ?_ | refine brF ?_)
      refine And.intro (Int.le_refl 0) (Exists.intro _ (And.intro rfl ?_))
      repeat (first | refine gT ?_ | refine gF ?_ | refine brT ?_ | refine brF ?_)
      first | refine Exists.intro _ (And.intro (v) ?_) | refine Hn_by (Exists.intro _ (And.intro (v) ?_))
      repeat (first | refine gT ?_ | refine gF ?_ | refine brT ?_ | refine brF ?_)
      exact And.intro (Or.inr rfl) rfl
/-- what a path is -/
theorem pathB_iff {c : List Ps} : pathB c = true ↔ ∃ n : Nat, n ≤ 20 ∧ (0 < c.length ∧ c.length ≤ 24) ∧ ∀ p ∈ c, p.length = n ∧ ∀ r ∈ p, Qok r := by
  have hpos : ∀ {n : Int} {p : Ps}, posB n p = true ↔ (p.length : Int) = n ∧ ∀ r ∈ p, Qok r := by
    intro n p
    unfold posB
    rw [Bool.and_eq_true, List.all_eq_true, beq_iff_eq]
    constructor
    · rintro ⟨a, b⟩; exact ⟨b, fun r hr => qB_iff.1 (a r hr)⟩
    · rintro ⟨a, b⟩; exact ⟨fun r hr => qB_iff.2 (b r hr), a⟩
  cases c with
  | nil =>
    constructor
    · intro h; cases h
    · rintro ⟨n, _, ⟨h, _⟩, _⟩; cases h
  | cons p c =>
    unfold pathB chkF
    rw [beq_iff_eq]
    constructor
    · intro h
      split at h
      · cases h
      · split at h
        · cases h
        · split at h
          · rename_i h1 h2 h3
            rw [List.all_eq_true] at h3
            refine ⟨p.length, by omega, ⟨by omega, by omega⟩, fun q hq => ?_⟩
            obtain ⟨a, b⟩ := hpos.1 (h3 q hq)
            exact ⟨by omega, b⟩
          · cases h
    · rintro ⟨n, h1, ⟨h2, h3⟩, h4⟩
      have e := (h4 p (by simp)).1
      rw [if_neg (by omega), if_neg (by omega), if_pos]
      rw [List.all_eq_true]
      intro q hq
      obtain ⟨a, b⟩ := h4 q hq
      exact hpos.2 ⟨by omega, b⟩
end Ab
