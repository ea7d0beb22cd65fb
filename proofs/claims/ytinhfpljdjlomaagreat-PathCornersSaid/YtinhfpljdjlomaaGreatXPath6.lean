import Derived.Test.YtinhfpljdjlomaaGreatXPath5
/-!
Join and Closed, of both packages; the reference's Reverse.
-/
open Go Go.Proofs
namespace Ab
set_option maxRecDepth 100000
set_option maxHeartbeats 1000000

noncomputable def closedB (c : List Ps) : Bool := pathB c && same (c.getD 0 []) (c.getD (c.length - 1) [])
noncomputable def joinB (a b : List Ps) : Bool := pathB a && (pathB b && (same (a.getD (a.length - 1) []) (b.getD 0 []) && decide (a.length + b.length ≤ 25)))
noncomputable def joinF (a b : List Ps) : AV := match joinB a b with | true => .tup [pthv (a ++ b.drop 1), .int .i64 0] | false => .tup [.sl [], .int .i64 170]
theorem getD_at {c : List Ps} {i : Nat} (h : i < c.length) : c[i]? = some (c.getD i []) := by rw [List.getD_eq_getElem?_getD, List.getElem?_eq_getElem h]; rfl
theorem closed_spec {c : List Ps} (h : QDc c) : Spec Tryz.prog [] 31 [pthv c] (.bool (closedB c)) := by
  have lc : ((prow c).length : Int) = c.length := by rw [prow_len]
  have ip := isPath_spec h
  unfold closedB
  cases hb : pathB c with
  | false =>
    rw [hb] at ip
    refine spec_fn T_ok mixed_ok 0 Tryz.func31 fn_ok31 (by kernel_rfl) ?_
    refine And.intro (by kernel_rfl) ?_
    first | refine Exists.intro _ (And.intro (ip) ?_) | refine Hn_by (Exists.intro _ (And.intro (ip) ?_))
    repeat (first | refine gT ?_ | refine gF ?_ | refine brT ?_ | refine brF ?_)
    exact And.intro (Or.inr rfl) rfl
  | true =>
    obtain ⟨ok, ⟨h24, h0⟩, h20⟩ := okc_of hb
    rw [hb] at ip
    have hw : w64 (((prow c).length : Int) - 1) = ((c.length - 1 : Nat) : Int) := by rw [w64_eq (by omega)]; omega
    have a1 := getD_at (c := c) (i := 0) h0
    have a2 := getD_at (c := c) (i := c.length - 1) (by omega)
    have q1 := ok _ (List.mem_of_getElem? a1)
    have q2 := ok _ (List.mem_of_getElem? a2)
    have s := psame_spec q1.1 q2.1 q1.2
    refine spec_fn T_ok mixed_ok 0 Tryz.func31 fn_ok31 (by kernel_rfl) ?_
    refine And.intro (by kernel_rfl) ?_
    first | refine Exists.intro _ (And.intro (ip) ?_) | refine Hn_by (Exists.intro _ (And.intro (ip) ?_))
    repeat (first | refine gT ?_ | refine gF ?_ | refine brT ?_ | refine brF ?_)
    refine And.intro (Int.le_refl 0) (Exists.intro _ (And.intro (prow_at a1) ?_))
    repeat (first | refine gT ?_ | refine gF ?_ | refine brT ?_ | refine brF ?_)
    refine And.intro (show 0 ≤ w64 (((prow c).length : Int) - 1) by omega) (Exists.intro _ (And.intro (show (prow c)[(w64 (((prow c).length : Int) - 1)).toNat]? = some [AV.sl (c.getD (c.length - 1) [])] by rw [hw]; exact prow_at a2) ?_))
    repeat (first | refine gT ?_ | refine gF ?_ | refine brT ?_ | refine brF ?_)
    first | refine Exists.intro _ (And.intro (s) ?_) | refine Hn_by (Exists.intro _ (And.intro (s) ?_))
    exact And.intro (Or.inr rfl) rfl
theorem rclosed_spec {c : List Ps} (h : QDc c) : Spec Tryz.prog [] 32 [pthv c] (.bool (closedB c)) := by
  have lc : ((prow c).length : Int) = c.length := by rw [prow_len]
  have ip := risPath_spec h
  unfold closedB
  cases hb : pathB c with
  | false =>
    rw [hb] at ip
    refine spec_fn T_ok mixed_ok 0 Tryz.func32 fn_ok32 (by kernel_rfl) ?_
    refine And.intro (by kernel_rfl) ?_
    first | refine Exists.intro _ (And.intro (ip) ?_) | refine Hn_by (Exists.intro _ (And.intro (ip) ?_))
    repeat (first | refine gT ?_ | refine gF ?_ | refine brT ?_ | refine brF ?_)
    exact And.intro (Or.inr rfl) rfl
  | true =>
    obtain ⟨ok, ⟨h24, h0⟩, h20⟩ := okc_of hb
    rw [hb] at ip
    have hw : w64 (((prow c).length : Int) - 1) = ((c.length - 1 : Nat) : Int) := by rw [w64_eq (by omega)]; omega
    have a1 := getD_at (c := c) (i := 0) h0
    have a2 := getD_at (c := c) (i := c.length - 1) (by omega)
    have q1 := ok _ (List.mem_of_getElem? a1)
    have q2 := ok _ (List.mem_of_getElem? a2)
    have s := rsame_spec q1.1 (ok.qd _ (List.mem_of_getElem? a2)).1 q1.2
    refine spec_fn T_ok mixed_ok 0 Tryz.func32 fn_ok32 (by kernel_rfl) ?_
    refine And.intro (by kernel_rfl) ?_
    first | refine Exists.intro _ (And.intro (ip) ?_) | refine Hn_by (Exists.intro _ (And.intro (ip) ?_))
    repeat (first | refine gT ?_ | refine gF ?_ | refine brT ?_ | refine brF ?_)
    refine And.intro (Int.le_refl 0) (Exists.intro _ (And.intro (prow_at a1) ?_))
    repeat (first | refine gT ?_ | refine gF ?_ | refine brT ?_ | refine brF ?_)
    refine And.intro (show 0 ≤ w64 (((prow c).length : Int) - 1) by omega) (Exists.intro _ (And.intro (show (prow c)[(w64 (((prow c).length : Int) - 1)).toNat]? = some [AV.sl (c.getD (c.length - 1) [])] by rw [hw]; exact prow_at a2) ?_))
    repeat (first | refine gT ?_ | refine gF ?_ | refine brT ?_ | refine brF ?_)
    first | refine Exists.intro _ (And.intro (s) ?_) | refine Hn_by (Exists.intro _ (And.intro (s) ?_))
    exact And.intro (Or.inr rfl) rfl

/-! what is appended -/
def accV : List Ps → AV
  | [] => .nil
  | p :: l => .ms 0 0 (p :: l).length
def accH : List Ps → List (Nat × Blk)
  | [] => []
  | p :: l => [(0, .own 30 ((p :: l).map AV.sl))]
theorem app_sl (l : List Ps) (p : Ps) : appL (l.map AV.sl) [AV.sl p] = (l ++ [p]).map AV.sl := by rw [appL_eq]; simp
/-- after the first list -/
def ac2V (a : List Ps) : List Ps → AV
  | [] => .ms 0 0 a.length
  | p :: l => .ms 1 0 (a ++ p :: l).length
def ac2H (a : List Ps) : List Ps → List (Nat × Blk)
  | [] => [(0, .own 30 (a.map AV.sl))]
  | p :: l => [(1, .own 30 ((a ++ p :: l).map AV.sl))]
end Ab
