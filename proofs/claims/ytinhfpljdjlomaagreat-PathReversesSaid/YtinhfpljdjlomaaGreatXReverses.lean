import Derived.Test.YtinhfpljdjlomaaGreatXPath7
import Derived.Test.YtinhfpljdjlomaaGreatXWorks
import Derived.Test.YtinhfpljdjlomaaGreatXShapeP
/-!
The law PathReverses.
-/
open Go Go.Proofs
namespace Ab
set_option maxRecDepth 100000
set_option maxHeartbeats 1000000

theorem pathB_rev {c : List Ps} (h : pathB c = true) : pathB c.reverse = true := by
  obtain ⟨n, h1, ⟨h2, h3⟩, h4⟩ := pathB_iff.1 h
  exact pathB_iff.2 ⟨n, h1, ⟨by simpa using h2, by simpa using h3⟩, fun p hp => h4 p (by simpa using hp)⟩
theorem joinB_iff {a b : List Ps} : joinB a b = true ↔ pathB a = true ∧ pathB b = true ∧ a.getD (a.length - 1) [] = b.getD 0 [] ∧ a.length + b.length ≤ 25 := by
  unfold joinB
  simp only [Bool.and_eq_true, decide_eq_true_eq, same_iff]
theorem path_ends {c : List Ps} (h : pathB c = true) : ∃ x l y m, c = x :: l ∧ c = m ++ [y] ∧ c.getD 0 [] = x ∧ c.getD (c.length - 1) [] = y := by
  have h0 := (okc_of h).2.1.2
  match c, h0 with
  | x :: l, _ =>
    refine ⟨x, l, (x :: l).getLast (by simp), (x :: l).dropLast, rfl, (List.dropLast_concat_getLast (by simp)).symm, rfl, ?_⟩
    rw [List.getD_eq_getElem?_getD, List.getLast_eq_getElem, List.getElem?_eq_getElem (by simp)]
    rfl
theorem pathB_join {a b : List Ps} (h : joinB a b = true) : pathB (a ++ b.drop 1) = true := by
  obtain ⟨ha, hb, he, hl⟩ := joinB_iff.1 h
  obtain ⟨x, l, y, m, e1, e2, e3, e4⟩ := path_ends ha
  obtain ⟨x', l', y', m', e1', e2', e3', e4'⟩ := path_ends hb
  obtain ⟨n, h1, ⟨h2, h3⟩, h4⟩ := pathB_iff.1 ha
  obtain ⟨n', h1', ⟨h2', h3'⟩, h4'⟩ := pathB_iff.1 hb
  rw [e4, e3'] at he
  have q1 := (h4 y (by rw [e2]; simp)).1
  have q2 := (h4' x' (by rw [e1']; simp)).1
  refine pathB_iff.2 ⟨n, h1, ⟨by rw [List.length_append]; omega, by rw [List.length_append, List.length_drop]; omega⟩, fun p hp => ?_⟩
  rcases List.mem_append.1 hp with hp | hp
  · exact h4 p hp
  · have := h4' p (List.mem_of_mem_drop hp)
    exact ⟨by rw [this.1, ← q2, ← he, q1], this.2⟩
theorem joinB_rev {a b : List Ps} (h : joinB a b = true) : joinB b.reverse a.reverse = true ∧ (a ++ b.drop 1).reverse = b.reverse ++ a.reverse.drop 1 := by
  obtain ⟨ha, hb, he, hl⟩ := joinB_iff.1 h
  obtain ⟨x, l, y, m, e1, e2, e3, e4⟩ := path_ends ha
  obtain ⟨x', l', y', m', e1', e2', e3', e4'⟩ := path_ends hb
  rw [e4, e3'] at he
  subst he
  refine ⟨joinB_iff.2 ⟨pathB_rev hb, pathB_rev ha, ?_, by simp; omega⟩, ?_⟩
  · have k1 : b.reverse.getD (b.reverse.length - 1) [] = y := by
      rw [e1', List.getD_eq_getElem?_getD, List.reverse_cons, List.length_append, List.length_singleton, Nat.add_sub_cancel, List.getElem?_append_right (Nat.le_refl _), Nat.sub_self]
      rfl
    have k2 : a.reverse.getD 0 [] = y := by rw [e2, List.reverse_append]; rfl
    rw [k1, k2]
  · rw [List.reverse_append, e1', List.drop_one, List.tail_cons, List.reverse_cons, List.append_assoc]
    congr 1
    rw [e2, List.reverse_append]
    rfl
theorem okc_qd {c : List Ps} (h : pathB c = true) : QDc c := (okc_of h).1.qd
theorem reverses_law {a b : List Ps} (ha : QDc a) (hb : QDc b) (la : (a.length : Int) ≤ 9223372036854775807) (lb : (b.length : Int) ≤ 9223372036854775807) : Spec Tryz.prog [] 7 [pthv a, pthv b] (.bool true) := by
  obtain ⟨f1, fa⟩ := few_spec la
  obtain ⟨f2, fb⟩ := few_spec lb
  cases f1 with
  | false =>
    refine spec_fn T_ok mixed_ok 0 Tryz.func7 fn_ok7 (by kernel_rfl) ?_
    first | refine Exists.intro _ (And.intro (fa) ?_) | refine Hn_by (Exists.intro _ (And.intro (fa) ?_))
    repeat (first | refine gT ?_ | refine gF ?_ | refine brT ?_ | refine brF ?_)
    first | refine Exists.intro _ (And.intro (works_spec) ?_) | refine Hn_by (Exists.intro _ (And.intro (works_spec) ?_))
    exact And.intro (Or.inr rfl) rfl
  | true =>
  cases f2 with
  | false =>
    refine spec_fn T_ok mixed_ok 0 Tryz.func7 fn_ok7 (by kernel_rfl) ?_
    first | refine Exists.intro _ (And.intro (fa) ?_) | refine Hn_by (Exists.intro _ (And.intro (fa) ?_))
    repeat (first | refine gT ?_ | refine gF ?_ | refine brT ?_ | refine brF ?_)
    first | refine Exists.intro _ (And.intro (fb) ?_) | refine Hn_by (Exists.intro _ (And.intro (fb) ?_))
    repeat (first | refine gT ?_ | refine gF ?_ | refine brT ?_ | refine brF ?_)
    first | refine Exists.intro _ (And.intro (works_spec) ?_) | refine Hn_by (Exists.intro _ (And.intro (works_spec) ?_))
    exact And.intro (Or.inr rfl) rfl
  | true =>
  have ra := reverse_spec ha
  have jn := join_spec ha hb
  cases ea : pathB a with
  | false =>
    have rx := reverse_spec (c := []) (fun _ h => by cases h)
    rw [show revF a = .tup [.sl [], .int .i64 170] by unfold revF; rw [ea]] at ra
    rw [show revF [] = .tup [.sl [], .int .i64 170] by unfold revF; rfl] at rx
    rw [show joinF a b = .tup [.sl [], .int .i64 170] by unfold joinF joinB; rw [ea]; rfl] at jn
    refine spec_fn T_ok mixed_ok 0 Tryz.func7 fn_ok7 (by kernel_rfl) ?_
    first | refine Exists.intro _ (And.intro (fa) ?_) | refine Hn_by (Exists.intro _ (And.intro (fa) ?_))
    repeat (first | refine gT ?_ | refine gF ?_ | refine brT ?_ | refine brF ?_)
    first | refine Exists.intro _ (And.intro (fb) ?_) | refine Hn_by (Exists.intro _ (And.intro (fb) ?_))
    repeat (first | refine gT ?_ | refine gF ?_ | refine brT ?_ | refine brF ?_)
    first | refine Exists.intro _ (And.intro (ra) ?_) | refine Hn_by (Exists.intro _ (And.intro (ra) ?_))
    first | refine Exists.intro _ (And.intro (rx) ?_) | refine Hn_by (Exists.intro _ (And.intro (rx) ?_))
    first | refine Exists.intro _ (And.intro (works_spec) ?_) | refine Hn_by (Exists.intro _ (And.intro (works_spec) ?_))
    repeat (first | refine gT ?_ | refine gF ?_ | refine brT ?_ | refine brF ?_)
    first | refine Exists.intro _ (And.intro (jn) ?_) | refine Hn_by (Exists.intro _ (And.intro (jn) ?_))
    repeat (first | refine gT ?_ | refine gF ?_ | refine brT ?_ | refine brF ?_)
    exact And.intro (Or.inr rfl) rfl
  | true =>
  have ear := pathB_rev ea
  have rx := reverse_spec (okc_qd ear)
  rw [show revF a = .tup [pthv a.reverse, .int .i64 0] by unfold revF; rw [ea]] at ra
  rw [show revF a.reverse = .tup [pthv a, .int .i64 0] by unfold revF; rw [ear, List.reverse_reverse]] at rx
  have ps := paths_spec (okc_of ea).1 ha la
  rw [same_true rfl] at ps
  cases ej : joinB a b with
  | false =>
    rw [show joinF a b = .tup [.sl [], .int .i64 170] by unfold joinF; rw [ej]] at jn
    refine spec_fn T_ok mixed_ok 0 Tryz.func7 fn_ok7 (by kernel_rfl) ?_
    first | refine Exists.intro _ (And.intro (fa) ?_) | refine Hn_by (Exists.intro _ (And.intro (fa) ?_))
    repeat (first | refine gT ?_ | refine gF ?_ | refine brT ?_ | refine brF ?_)
    first | refine Exists.intro _ (And.intro (fb) ?_) | refine Hn_by (Exists.intro _ (And.intro (fb) ?_))
    repeat (first | refine gT ?_ | refine gF ?_ | refine brT ?_ | refine brF ?_)
    first | refine Exists.intro _ (And.intro (ra) ?_) | refine Hn_by (Exists.intro _ (And.intro (ra) ?_))
    first | refine Exists.intro _ (And.intro (rx) ?_) | refine Hn_by (Exists.intro _ (And.intro (rx) ?_))
    first | refine Exists.intro _ (And.intro (works_spec) ?_) | refine Hn_by (Exists.intro _ (And.intro (works_spec) ?_))
    repeat (first | refine gT ?_ | refine gF ?_ | refine brT ?_ | refine brF ?_)
    first | refine Exists.intro _ (And.intro (ps) ?_) | refine Hn_by (Exists.intro _ (And.intro (ps) ?_))
    repeat (first | refine gT ?_ | refine gF ?_ | refine brT ?_ | refine brF ?_)
    first | refine Exists.intro _ (And.intro (jn) ?_) | refine Hn_by (Exists.intro _ (And.intro (jn) ?_))
    repeat (first | refine gT ?_ | refine gF ?_ | refine brT ?_ | refine brF ?_)
    exact And.intro (Or.inr rfl) rfl
  | true =>
    obtain ⟨_, eb, _, hl⟩ := joinB_iff.1 ej
    have eab := pathB_join ej
    obtain ⟨ejr, hrev⟩ := joinB_rev ej
    have rab := reverse_spec (okc_qd eab)
    have rb := reverse_spec hb
    have jr := join_spec (okc_qd (pathB_rev eb)) (okc_qd ear)
    rw [show joinF a b = .tup [pthv (a ++ b.drop 1), .int .i64 0] by unfold joinF; rw [ej]] at jn
    rw [show revF (a ++ b.drop 1) = .tup [pthv (b.reverse ++ a.reverse.drop 1), .int .i64 0] by unfold revF; rw [eab, hrev]] at rab
    rw [show revF b = .tup [pthv b.reverse, .int .i64 0] by unfold revF; rw [eb]] at rb
    rw [show joinF b.reverse a.reverse = .tup [pthv (b.reverse ++ a.reverse.drop 1), .int .i64 0] by unfold joinF; rw [ejr]] at jr
    have p2 := okc_of (pathB_join ejr)
    have ps2 := paths_spec p2.1 p2.1.qd (by have := p2.2.1.1; omega)
    rw [same_true rfl] at ps2
    refine spec_fn T_ok mixed_ok 0 Tryz.func7 fn_ok7 (by kernel_rfl) ?_
    first | refine Exists.intro _ (And.intro (fa) ?_) | refine Hn_by (Exists.intro _ (And.intro (fa) ?_))
    repeat (first | refine gT ?_ | refine gF ?_ | refine brT ?_ | refine brF ?_)
    first | refine Exists.intro _ (And.intro (fb) ?_) | refine Hn_by (Exists.intro _ (And.intro (fb) ?_))
    repeat (first | refine gT ?_ | refine gF ?_ | refine brT ?_ | refine brF ?_)
    first | refine Exists.intro _ (And.intro (ra) ?_) | refine Hn_by (Exists.intro _ (And.intro (ra) ?_))
    first | refine Exists.intro _ (And.intro (rx) ?_) | refine Hn_by (Exists.intro _ (And.intro (rx) ?_))
    first | refine Exists.intro _ (And.intro (works_spec) ?_) | refine Hn_by (Exists.intro _ (And.intro (works_spec) ?_))
    repeat (first | refine gT ?_ | refine gF ?_ | refine brT ?_ | refine brF ?_)
    first | refine Exists.intro _ (And.intro (ps) ?_) | refine Hn_by (Exists.intro _ (And.intro (ps) ?_))
    repeat (first | refine gT ?_ | refine gF ?_ | refine brT ?_ | refine brF ?_)
    first | refine Exists.intro _ (And.intro (jn) ?_) | refine Hn_by (Exists.intro _ (And.intro (jn) ?_))
    repeat (first | refine gT ?_ | refine gF ?_ | refine brT ?_ | refine brF ?_)
    first | refine Exists.intro _ (And.intro (rab) ?_) | refine Hn_by (Exists.intro _ (And.intro (rab) ?_))
    first | refine Exists.intro _ (And.intro (rb) ?_) | refine Hn_by (Exists.intro _ (And.intro (rb) ?_))
    first | refine Exists.intro _ (And.intro (jr) ?_) | refine Hn_by (Exists.intro _ (And.intro (jr) ?_))
    repeat (first | refine gT ?_ | refine gF ?_ | refine brT ?_ | refine brF ?_)
    first | refine Exists.intro _ (And.intro (ps2) ?_) | refine Hn_by (Exists.intro _ (And.intro (ps2) ?_))
    exact And.intro (Or.inr rfl) rfl
end Ab
