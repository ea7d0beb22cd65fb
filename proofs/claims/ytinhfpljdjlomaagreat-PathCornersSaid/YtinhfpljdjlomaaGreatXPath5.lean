import Derived.Test.YtinhfpljdjlomaaGreatXPath4
/-!
path.Reverse, Join, Closed.
-/
open Go Go.Proofs
namespace Ab
set_option maxRecDepth 100000
set_option maxHeartbeats 1000000

theorem okc_of {c : List Ps} (h : pathB c = true) : Okc c ∧ (c.length ≤ 24 ∧ 0 < c.length) ∧ ∀ p ∈ c, p.length ≤ 20 := by
  obtain ⟨n, h1, ⟨h2, h3⟩, h4⟩ := pathB_iff.1 h
  exact ⟨fun p hp => ⟨(h4 p hp).2, by have := (h4 p hp).1; omega⟩, ⟨h3, h2⟩, fun p hp => by have := (h4 p hp).1; omega⟩
/-- what is built backwards -/
def bwd (c : List Ps) (i : Nat) : List AV := List.replicate (c.length - i) .nil ++ ((c.take i).reverse.map AV.sl)
theorem bwd_len {c : List Ps} {i : Nat} (h : i ≤ c.length) : (bwd c i).length = c.length := by simp [bwd]; omega
theorem bwd_set {c : List Ps} {i : Nat} {p : Ps} (h : c[i]? = some p) : (bwd c i).set (c.length - 1 - i) (.sl p) = bwd c (i + 1) := by
  have g := (List.getElem?_eq_some_iff.1 h).1
  unfold bwd
  rw [show c.length - i = (c.length - (i + 1)) + 1 by omega, show c.length - 1 - i = c.length - (i + 1) by omega]
  rw [List.set_append_left _ _ (by simp), List.replicate_succ', List.set_append_right _ _ (by simp), List.length_replicate, Nat.sub_self, List.set_cons_zero, List.take_add_one, h]
  simp
theorem bwd_full (c : List Ps) : bwd c c.length = c.reverse.map AV.sl := by simp [bwd]
theorem bwd_zero (c : List Ps) : bwd c 0 = List.replicate c.length .nil := by simp [bwd]
theorem toDs_sl {hp : Nat → Option Blk} (l : List Ps) {K : List AV → Prop} (h : K (l.map AV.sl)) : toDs hp (l.map AV.sl) K := by
  induction l generalizing K with
  | nil => exact h
  | cons x l ih => exact ih (K := fun ds => K (.sl x :: ds)) h
theorem prow_map (c : List Ps) : (c.map AV.sl).map (fun d => [d]) = prow c := by simp [prow]
noncomputable def revF (c : List Ps) : AV := match pathB c with | true => .tup [pthv c.reverse, .int .i64 0] | false => .tup [.sl [], .int .i64 170]
theorem reverse_spec {c : List Ps} (h : QDc c) : Spec Tryz.prog [] 25 [pthv c] (revF c) := by
  have ip := isPath_spec h
  have lc : ((prow c).length : Int) = c.length := by rw [prow_len]
  cases hb : pathB c with
  | false =>
    unfold revF
    rw [hb] at ip ⊢
    refine spec_fn T_ok mixed_ok 0 Tryz.func25 fn_ok25 (by kernel_rfl) ?_
    first | refine Exists.intro _ (And.intro (ip) ?_) | refine Hn_by (Exists.intro _ (And.intro (ip) ?_))
    repeat (first | refine gT ?_ | refine gF ?_ | refine brT ?_ | refine brF ?_)
    exact And.intro (Or.inr rfl) rfl
  | true =>
    obtain ⟨ok, ⟨h24, h0⟩, h20⟩ := okc_of hb
    unfold revF
    rw [hb] at ip ⊢
    have hn : ((prow c).length : Int).toNat = c.length := by omega
    refine spec_fn T_ok mixed_ok 0 Tryz.func25 fn_ok25 (by kernel_rfl) ?_
    first | refine Exists.intro _ (And.intro (ip) ?_) | refine Hn_by (Exists.intro _ (And.intro (ip) ?_))
    repeat (first | refine gT ?_ | refine gF ?_ | refine brT ?_ | refine brF ?_)
    refine And.intro (show (0 : Int) ≤ ((prow c).length : Int) by omega) (And.intro (Int.le_refl _) (And.intro (show ((prow c).length : Int) * 24 ≤ 140737488355328 by omega) (And.intro (show ((prow c).length : Int) ≤ maxLen by simp only [maxLen]; omega) ?_)))
    refine aw_loop (fun i : Nat => stOf [(0, pthv c), (4, .ms 0 0 c.length), (13, pthv c), (14, .int .i64 ((prow c).length : Int)), (15, .int .i64 (i : Int))] [(0, .own 30 (bwd c i))] 1) (fun i => i ≤ c.length) (fun i => c.length - i) 0 (Nat.zero_le _)
      (le_by ⟨rfl, (show AV.ms 0 0 ((prow c).length : Int).toNat = _ by rw [hn]), rfl, rfl, rfl, trivial⟩ ⟨(show some (Blk.own 30 (List.replicate ((prow c).length : Int).toNat .nil)) = _ by rw [hn, bwd_zero]), trivial⟩ (Nat.le_refl _)) ?_
    intro i hi P hP
    refine br (fun g => ?_) (fun g => ?_)
    · have g : i < c.length := by have : (i : Int) < ((prow c).length : Int) := g; omega
      obtain ⟨p, hp⟩ := get_of g
      have s := ownAll_spec (ok p (List.mem_of_getElem? hp)).1 (by have := h20 p (List.mem_of_getElem? hp); omega)
      have hw : w64 (w64 (((prow c).length : Int) - 1) - (i : Int)) = ((c.length - 1 - i : Nat) : Int) := by rw [w64_eq (n := ((prow c).length : Int) - 1) (by omega), w64_eq (by omega)]; omega
      refine And.intro (Int.natCast_nonneg i) (Exists.intro _ (And.intro (prow_at hp) ?_))
      first | refine Exists.intro _ (And.intro (s) ?_) | refine Hn_by (Exists.intro _ (And.intro (s) ?_))
      refine And.intro (show 0 ≤ w64 (w64 (((prow c).length : Int) - 1) - (i : Int)) by omega) (And.intro (show w64 (w64 (((prow c).length : Int) - 1) - (i : Int)) < (c.length : Int) by omega) ?_)
      have ho : 0 + (w64 (w64 (((prow c).length : Int) - 1) - (i : Int))).toNat = c.length - 1 - i := by omega
      refine mT (show Nat.ble ((0 + (w64 (w64 (((prow c).length : Int) - 1) - (i : Int))).toNat) + 1) (lenL (bwd c i)) = true from ble_len (by rw [bwd_len hi]; omega)) ?_
      refine forceL_by (set_app (0 + (w64 (w64 (((prow c).length : Int) - 1) - (i : Int))).toNat) (bwd c i) (.sl p) (by rw [bwd_len hi]; omega)) ?_
      refine hP (i + 1) _ ?_ g (by omega)
      refine le_by ⟨rfl, rfl, rfl, rfl, int_eq ?_, trivial⟩ ⟨?_, trivial⟩ (Nat.le_refl _)
      · exact w64_succ g (by omega)
      · show some (Blk.own 30 ((bwd c i).set (0 + (w64 (w64 (((prow c).length : Int) - 1) - (i : Int))).toNat) (.sl p))) = _
        rw [ho, bwd_set hp]
    · have g : ¬ i < c.length := by have : ¬ (i : Int) < ((prow c).length : Int) := g; omega
      have e : i = c.length := by omega
      subst e
      refine And.intro (Or.inr rfl) ?_
      refine And.intro (show 0 + c.length ≤ (bwd c c.length).length by rw [bwd_len (Nat.le_refl _)]; omega) ?_
      rw [show ((bwd c c.length).drop 0).take c.length = c.reverse.map AV.sl by rw [bwd_full, List.drop_zero, List.take_of_length_le (by simp)]]
      refine toDs_sl _ ?_
      rw [prow_map]
      rfl
end Ab
