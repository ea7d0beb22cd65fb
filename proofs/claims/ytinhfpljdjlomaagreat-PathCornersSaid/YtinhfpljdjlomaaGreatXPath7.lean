import Derived.Test.YtinhfpljdjlomaaGreatXPath6
/-!
Join, of both packages; the reference's Reverse.
-/
open Go Go.Proofs
namespace Ab
set_option maxRecDepth 100000
set_option maxHeartbeats 1000000

theorem take_snoc {α : Type} {c l : List α} {p : α} (h : l = c.take l.length) (hp : c[l.length]? = some p) : l ++ [p] = c.take (l ++ [p]).length := by
  rw [List.length_append, List.length_singleton, List.take_add_one, hp, ← h]; rfl
theorem drop_take {α : Type} {c l : List α} {p : α} (h : l = (c.drop 1).take l.length) (hp : c[l.length + 1]? = some p) : l ++ [p] = (c.drop 1).take (l ++ [p]).length := by
  rw [List.length_append, List.length_singleton, List.take_add_one, List.getElem?_drop, Nat.add_comm 1, hp, ← h]; rfl
theorem len_one {v : AV} : [v].length * 24 ≤ 140737488355328 := by simp
theorem len_one2 {v : AV} : [v].length ≤ maxLen := by simp [maxLen]
theorem slice_one {b : List Ps} : ((prow b).take (prow b).length).drop (1 : Int).toNat = prow (b.drop 1) := by
  rw [List.take_of_length_le (Nat.le_refl _)]
  simp [prow]
theorem prow_ok (c : List Ps) : RowsOk 1 (prow c) := fun r hr => by
  obtain ⟨x, _, rfl⟩ := List.mem_map.1 hr; rfl
theorem out_eq (L : List Ps) : ((L.map AV.sl).drop 0).take L.length = L.map AV.sl := by rw [List.drop_zero, List.take_of_length_le (by simp)]
theorem join_spec {a b : List Ps} (ha : QDc a) (hb : QDc b) : Spec Tryz.prog [] 27 [pthv a, pthv b] (joinF a b) := by
  have la : ((prow a).length : Int) = a.length := by rw [prow_len]
  have lb : ((prow b).length : Int) = b.length := by rw [prow_len]
  have ia := isPath_spec ha
  have ib := isPath_spec hb
  cases ea : pathB a with
  | false =>
    rw [ea] at ia
    rw [show joinF a b = .tup [.sl [], .int .i64 170] by unfold joinF joinB; rw [ea]; rfl]
    refine spec_fn T_ok mixed_ok 0 Tryz.func27 fn_ok27 (by kernel_rfl) ?_
    refine And.intro (by kernel_rfl) ?_
    first | refine Exists.intro _ (And.intro (ia) ?_) | refine Hn_by (Exists.intro _ (And.intro (ia) ?_))
    repeat (first | refine gT ?_ | refine gF ?_ | refine brT ?_ | refine brF ?_)
    exact And.intro (Or.inr rfl) rfl
  | true =>
  cases eb : pathB b with
  | false =>
    rw [ea] at ia
    rw [eb] at ib
    rw [show joinF a b = .tup [.sl [], .int .i64 170] by unfold joinF joinB; rw [ea, eb]; rfl]
    refine spec_fn T_ok mixed_ok 0 Tryz.func27 fn_ok27 (by kernel_rfl) ?_
    refine And.intro (by kernel_rfl) ?_
    first | refine Exists.intro _ (And.intro (ia) ?_) | refine Hn_by (Exists.intro _ (And.intro (ia) ?_))
    repeat (first | refine gT ?_ | refine gF ?_ | refine brT ?_ | refine brF ?_)
    first | refine Exists.intro _ (And.intro (ib) ?_) | refine Hn_by (Exists.intro _ (And.intro (ib) ?_))
    repeat (first | refine gT ?_ | refine gF ?_ | refine brT ?_ | refine brF ?_)
    exact And.intro (Or.inr rfl) rfl
  | true =>
  obtain ⟨oka, ⟨a24, a0⟩, a20⟩ := okc_of ea
  obtain ⟨okb, ⟨b24, b0⟩, b20⟩ := okc_of eb
  rw [ea] at ia
  rw [eb] at ib
  have hw : w64 (((prow a).length : Int) - 1) = ((a.length - 1 : Nat) : Int) := by rw [w64_eq (by omega)]; omega
  have a1 := getD_at (c := a) (i := a.length - 1) (by omega)
  have a2 := getD_at (c := b) (i := 0) b0
  have q1 := oka _ (List.mem_of_getElem? a1)
  have q2 := okb _ (List.mem_of_getElem? a2)
  have s := psame_spec q1.1 q2.1 q1.2
  have hi : (prow a)[(w64 (((prow a).length : Int) - 1)).toNat]? = some [AV.sl (a.getD (a.length - 1) [])] := by rw [hw]; exact prow_at a1
  cases es : same (a.getD (a.length - 1) []) (b.getD 0 []) with
  | false =>
    rw [es] at s
    rw [show joinF a b = .tup [.sl [], .int .i64 170] by unfold joinF joinB; rw [ea, eb, es]; rfl]
    refine spec_fn T_ok mixed_ok 0 Tryz.func27 fn_ok27 (by kernel_rfl) ?_
    refine And.intro (by kernel_rfl) ?_
    first | refine Exists.intro _ (And.intro (ia) ?_) | refine Hn_by (Exists.intro _ (And.intro (ia) ?_))
    repeat (first | refine gT ?_ | refine gF ?_ | refine brT ?_ | refine brF ?_)
    first | refine Exists.intro _ (And.intro (ib) ?_) | refine Hn_by (Exists.intro _ (And.intro (ib) ?_))
    repeat (first | refine gT ?_ | refine gF ?_ | refine brT ?_ | refine brF ?_)
    refine And.intro (show 0 ≤ w64 (((prow a).length : Int) - 1) by omega) (Exists.intro _ (And.intro hi ?_))
    repeat (first | refine gT ?_ | refine gF ?_ | refine brT ?_ | refine brF ?_)
    refine And.intro (Int.le_refl 0) (Exists.intro _ (And.intro (prow_at a2) ?_))
    repeat (first | refine gT ?_ | refine gF ?_ | refine brT ?_ | refine brF ?_)
    first | refine Exists.intro _ (And.intro (s) ?_) | refine Hn_by (Exists.intro _ (And.intro (s) ?_))
    repeat (first | refine gT ?_ | refine gF ?_ | refine brT ?_ | refine brF ?_)
    exact And.intro (Or.inr rfl) rfl
  | true =>
  rw [es] at s
  have hw2 : w64 (w64 (((prow a).length : Int) + ((prow b).length : Int)) - 1) = (a.length : Int) + b.length - 1 := by rw [w64_eq (n := ((prow a).length : Int) + ((prow b).length : Int)) (by omega), w64_eq (by omega)]; omega
  by_cases hl : a.length + b.length ≤ 25
  rotate_left
  · rw [show joinF a b = .tup [.sl [], .int .i64 170] by unfold joinF joinB; rw [ea, eb, es, decide_eq_false hl]; rfl]
    refine spec_fn T_ok mixed_ok 0 Tryz.func27 fn_ok27 (by kernel_rfl) ?_
    refine And.intro (by kernel_rfl) ?_
    first | refine Exists.intro _ (And.intro (ia) ?_) | refine Hn_by (Exists.intro _ (And.intro (ia) ?_))
    repeat (first | refine gT ?_ | refine gF ?_ | refine brT ?_ | refine brF ?_)
    first | refine Exists.intro _ (And.intro (ib) ?_) | refine Hn_by (Exists.intro _ (And.intro (ib) ?_))
    repeat (first | refine gT ?_ | refine gF ?_ | refine brT ?_ | refine brF ?_)
    refine And.intro (show 0 ≤ w64 (((prow a).length : Int) - 1) by omega) (Exists.intro _ (And.intro hi ?_))
    repeat (first | refine gT ?_ | refine gF ?_ | refine brT ?_ | refine brF ?_)
    refine And.intro (Int.le_refl 0) (Exists.intro _ (And.intro (prow_at a2) ?_))
    repeat (first | refine gT ?_ | refine gF ?_ | refine brT ?_ | refine brF ?_)
    first | refine Exists.intro _ (And.intro (s) ?_) | refine Hn_by (Exists.intro _ (And.intro (s) ?_))
    repeat (first | refine gT ?_ | refine gF ?_ | refine brT ?_ | refine brF ?_)
    refine br (fun _ => ?_) (fun g => absurd (show w64 (w64 (((prow a).length : Int) + ((prow b).length : Int)) - 1) > 24 by omega) g)
    exact And.intro (Or.inr rfl) rfl
  rw [show joinF a b = .tup [pthv (a ++ b.drop 1), .int .i64 0] by unfold joinF joinB; rw [ea, eb, es, decide_eq_true hl]; rfl]
  refine spec_fn T_ok mixed_ok 0 Tryz.func27 fn_ok27 (by kernel_rfl) ?_
  refine And.intro (by kernel_rfl) ?_
  first | refine Exists.intro _ (And.intro (ia) ?_) | refine Hn_by (Exists.intro _ (And.intro (ia) ?_))
  repeat (first | refine gT ?_ | refine gF ?_ | refine brT ?_ | refine brF ?_)
  first | refine Exists.intro _ (And.intro (ib) ?_) | refine Hn_by (Exists.intro _ (And.intro (ib) ?_))
  repeat (first | refine gT ?_ | refine gF ?_ | refine brT ?_ | refine brF ?_)
  refine And.intro (show 0 ≤ w64 (((prow a).length : Int) - 1) by omega) (Exists.intro _ (And.intro hi ?_))
  repeat (first | refine gT ?_ | refine gF ?_ | refine brT ?_ | refine brF ?_)
  refine And.intro (Int.le_refl 0) (Exists.intro _ (And.intro (prow_at a2) ?_))
  repeat (first | refine gT ?_ | refine gF ?_ | refine brT ?_ | refine brF ?_)
  first | refine Exists.intro _ (And.intro (s) ?_) | refine Hn_by (Exists.intro _ (And.intro (s) ?_))
  repeat (first | refine gT ?_ | refine gF ?_ | refine brT ?_ | refine brF ?_)
  refine br (fun g => absurd (show w64 (w64 (((prow a).length : Int) + ((prow b).length : Int)) - 1) > 24 from g) (by omega)) (fun _ => ?_)
  refine aw_loopN 0 (fun l : List Ps => stOf [(0, pthv a), (1, pthv b), (6, accV l), (41, pthv a), (42, .int .i64 ((prow a).length : Int)), (43, .int .i64 (l.length : Int))] (accH l) 1) (fun l => l.length ≤ a.length ∧ l = a.take l.length) (fun l => a.length - l.length) [] ⟨Nat.zero_le _, rfl⟩
    (.inl (le_by ⟨rfl, rfl, rfl, rfl, rfl, rfl, trivial⟩ trivial (Nat.zero_le _))) (by kernel_rfl) ?_
  rintro l ⟨hi, hl0⟩ P hP
  refine br (fun g => ?_) (fun g => ?_)
  · have g : l.length < a.length := by have : (l.length : Int) < ((prow a).length : Int) := g; omega
    obtain ⟨p, hp⟩ := get_of g
    have s := ownAll_spec (oka p (List.mem_of_getElem? hp)).1 (by have := a20 p (List.mem_of_getElem? hp); omega)
    refine And.intro (Int.natCast_nonneg l.length) (Exists.intro _ (And.intro (prow_at hp) ?_))
    have hpre := take_snoc hl0 hp
    have hlen : (l ++ [p]).length = l.length + 1 := by simp
    have hw := w64_succ g (by omega)
    rw [← hlen] at hw
    match l with
    | [] =>
      first | refine Exists.intro _ (And.intro (s) ?_) | refine Hn_by (Exists.intro _ (And.intro (s) ?_))
      refine And.intro (Nat.le_refl 1) (And.intro (by simp) (And.intro len_one (And.intro len_one2 ?_)))
      refine hP [p] _ ?_ ⟨by simp at hlen g ⊢; omega, hpre⟩ (by simp at g ⊢; omega)
      exact leR_by [(0, 2)] [] rfl rfl (Nat.zero_le _) ⟨.inl rfl, .inl rfl, ⟨by decide, by kernel_rfl⟩, .inl rfl, rfl, int_eq hw, trivial⟩ ⟨⟨rfl, rfl, _, rfl, cvs_sl [p]⟩, trivial⟩
    | x :: xs =>
      first | refine Exists.intro _ (And.intro (s) ?_) | refine Hn_by (Exists.intro _ (And.intro (s) ?_))
      refine And.intro (show (x :: xs).length = ((x :: xs).map AV.sl).length by simp) (And.intro (Nat.le_refl 1) (And.intro (show ((x :: xs).length + 1) * 24 ≤ 140737488355328 by omega) (And.intro (show (x :: xs).length + 1 ≤ maxLen by simp only [maxLen]; omega) ?_)))
      refine forceL_by (app_sl (x :: xs) p) ?_
      refine hP ((x :: xs) ++ [p]) _ ?_ ⟨by omega, hpre⟩ (by omega)
      refine leR_by [(0, 2)] [] rfl rfl (Nat.zero_le _) ⟨.inl rfl, .inl rfl, ⟨by decide, ?_⟩, .inl rfl, rfl, int_eq hw, trivial⟩ ⟨⟨rfl, ones_sl _, _, rfl, cvs_sl _⟩, trivial⟩
      show AV.ms 2 0 ((x :: xs).length + 1) = AV.ms 2 0 ((x :: xs) ++ [p]).length
      rw [hlen]
  have g : ¬ l.length < a.length := by have : ¬ (l.length : Int) < ((prow a).length : Int) := g; omega
  rw [List.take_of_length_le (by omega)] at hl0
  subst hl0
  match l, a0 with
  | x :: xs, _ =>
  refine And.intro (by decide) (And.intro (show (1 : Int) ≤ ((prow b).length : Int) by omega) (And.intro (prow_ok b) ?_))
  have lb1 : (((prow b).take (prow b).length).drop (1 : Int).toNat).length = (b.drop 1).length := by rw [slice_one, prow_len]
  refine aw_loopN 1 (fun l2 : List Ps => stOf [(6, ac2V (x :: xs) l2), (54, pthv (b.drop 1)), (55, .int .i64 ((b.drop 1).length : Int)), (56, .int .i64 (l2.length : Int))] (ac2H (x :: xs) l2) 2) (fun l2 => l2.length ≤ (b.drop 1).length ∧ l2 = (b.drop 1).take l2.length) (fun l2 => (b.drop 1).length - l2.length) [] ⟨Nat.zero_le _, rfl⟩
    (.inl (le_by ⟨rfl, congrArg AV.sl slice_one, int_eq (by rw [lb1]), rfl, trivial⟩ ⟨rfl, trivial⟩ (show 1 ≤ 2 by decide))) (by kernel_rfl) ?_
  clear hP P
  rintro l2 ⟨hi, hl2⟩ P hP
  refine br (fun g => ?_) (fun g => ?_)
  · have g : l2.length < (b.drop 1).length := by have : (l2.length : Int) < ((b.drop 1).length : Int) := g; omega
    obtain ⟨p, hp1⟩ := get_of g
    have hp : b[l2.length + 1]? = some p := by rw [List.getElem?_drop, Nat.add_comm 1] at hp1; exact hp1
    have s := ownAll_spec (okb p (List.mem_of_getElem? hp)).1 (by have := b20 p (List.mem_of_getElem? hp); omega)
    have hbl : (b.drop 1).length ≤ 24 := by rw [List.length_drop]; omega
    refine And.intro (Int.natCast_nonneg l2.length) (Exists.intro _ (And.intro (prow_at hp1) ?_))
    have hpre := drop_take hl2 hp
    have hlen : (l2 ++ [p]).length = l2.length + 1 := by simp
    have hw := w64_succ g (by omega)
    rw [← hlen] at hw
    match l2 with
    | [] =>
      first | refine Exists.intro _ (And.intro (s) ?_) | refine Hn_by (Exists.intro _ (And.intro (s) ?_))
      refine And.intro (show (x :: xs).length = ((x :: xs).map AV.sl).length by simp) (And.intro (Nat.le_refl 1) (And.intro (show ((x :: xs).length + 1) * 24 ≤ 140737488355328 by omega) (And.intro (show (x :: xs).length + 1 ≤ maxLen by simp only [maxLen]; omega) ?_)))
      refine forceL_by (app_sl (x :: xs) p) ?_
      refine hP [p] _ ?_ ⟨by simp at hlen g ⊢; omega, hpre⟩ (by simp at g ⊢; omega)
      refine leR_by [(1, 3)] [] rfl rfl (by decide) ⟨⟨by decide, ?_⟩, .inl rfl, rfl, int_eq hw, trivial⟩ ⟨⟨rfl, ones_sl _, _, rfl, cvs_sl _⟩, trivial⟩
      show AV.ms 3 0 ((x :: xs).length + 1) = AV.ms 3 0 ((x :: xs) ++ [p]).length
      rw [List.length_append]; rfl
    | y :: ys =>
      first | refine Exists.intro _ (And.intro (s) ?_) | refine Hn_by (Exists.intro _ (And.intro (s) ?_))
      have e4 : ((x :: xs) ++ (y :: ys)).length = (x :: xs).length + (y :: ys).length := List.length_append
      refine And.intro (show ((x :: xs) ++ (y :: ys)).length = (((x :: xs) ++ (y :: ys)).map AV.sl).length by simp) (And.intro (Nat.le_refl 1) (And.intro (show (((x :: xs) ++ (y :: ys)).length + 1) * 24 ≤ 140737488355328 by omega) (And.intro (show ((x :: xs) ++ (y :: ys)).length + 1 ≤ maxLen by simp only [maxLen]; omega) ?_)))
      refine forceL_by (app_sl ((x :: xs) ++ (y :: ys)) p) ?_
      refine hP ((y :: ys) ++ [p]) _ ?_ ⟨by omega, hpre⟩ (by omega)
      rw [List.append_assoc]
      refine leR_by [(1, 3)] [] rfl rfl (by decide) ⟨⟨by decide, ?_⟩, .inl rfl, rfl, int_eq hw, trivial⟩ ⟨⟨rfl, ones_sl _, _, rfl, cvs_sl _⟩, trivial⟩
      show AV.ms 3 0 (((x :: xs) ++ (y :: ys)).length + 1) = AV.ms 3 0 ((x :: xs) ++ ((y :: ys) ++ [p])).length
      rw [← List.append_assoc, List.length_append (bs := [p])]; rfl
  · have g : ¬ l2.length < (b.drop 1).length := by have : ¬ (l2.length : Int) < ((b.drop 1).length : Int) := g; omega
    rw [List.take_of_length_le (by omega)] at hl2
    rw [← hl2]
    match l2 with
    | [] =>
      rw [List.append_nil]
      refine And.intro (Or.inr rfl) (And.intro (show 0 + (x :: xs).length ≤ ((x :: xs).map AV.sl).length by simp) ?_)
      rw [out_eq (x :: xs)]
      refine toDs_sl _ ?_
      rw [prow_map]
      rfl
    | y :: ys =>
      refine And.intro (Or.inr rfl) (And.intro (show 0 + (x :: xs ++ y :: ys).length ≤ ((x :: xs ++ y :: ys).map AV.sl).length by simp) ?_)
      rw [out_eq (x :: xs ++ y :: ys)]
      refine toDs_sl _ ?_
      rw [prow_map]
      rfl
end Ab
