import Derived.Test.YtinhfpljdjlomaaGreatXPath7
/-!
The reference's Reverse and Join.
-/
open Go Go.Proofs
namespace Ab
set_option maxRecDepth 100000
set_option maxHeartbeats 1000000

theorem cvs_snoc {ρ : Nat → Nat} {ks : List Nat} {n k m : Nat} {hp : Nat → Option Blk} {l : List Ps} {p : Ps} {sz : Nat × Nat} {rows : Ps} {lv : Bool} (hk : k ∈ ks) (hb : hp k = some (.arr sz rows lv)) (hm : m = rows.length) (e : p = rows) :
    cvs ρ ks n hp ((l ++ [p]).map AV.sl) (appL (l.map AV.sl) [.ms k 0 m]) := by
  rw [List.map_append, appL_eq]
  refine cvs_app (cvs_sl l) ?_
  subst e hm
  show cvs ρ ks n hp [AV.sl p] [AV.ms k 0 p.length]
  unfold cvs
  refine ⟨_, _, rfl, ?_, by unfold cvs; rfl⟩
  unfold cv
  exact .inr (.inr ⟨k, 0, p.length, sz, p, lv, rfl, hk, hb, by omega, by simp⟩)
theorem snoc_len {α : Type} (l : List α) (p : α) : (l ++ [p]).length = l.length + 1 := by simp
theorem nil_app (p : Ps) : ([] : Ps) ++ p = p := rfl
theorem rreverse_spec {c : List Ps} (h : QDc c) : Spec Tryz.prog [] 26 [pthv c] (revF c) := by
  have ip := risPath_spec h
  have lc : ((prow c).length : Int) = c.length := by rw [prow_len]
  cases hb : pathB c with
  | false =>
    unfold revF
    rw [hb] at ip ⊢
    refine spec_fn T_ok mixed_ok 0 Tryz.func26 fn_ok26 (by kernel_rfl) ?_
    first | refine Exists.intro _ (And.intro (ip) ?_) | refine Hn_by (Exists.intro _ (And.intro (ip) ?_))
    repeat (first | refine gT ?_ | refine gF ?_ | refine brT ?_ | refine brF ?_)
    exact And.intro (Or.inr rfl) rfl
  | true =>
    obtain ⟨ok, ⟨h24, h0⟩, h20⟩ := okc_of hb
    unfold revF
    rw [hb] at ip ⊢
    have hw0 : w64 (((prow c).length : Int) - 1) = (c.length : Int) - 1 - (([] : List Ps).length : Int) := by rw [w64_eq (by omega)]; simp only [List.length_nil]; omega
    refine spec_fn T_ok mixed_ok 0 Tryz.func26 fn_ok26 (by kernel_rfl) ?_
    first | refine Exists.intro _ (And.intro (ip) ?_) | refine Hn_by (Exists.intro _ (And.intro (ip) ?_))
    repeat (first | refine gT ?_ | refine gF ?_ | refine brT ?_ | refine brF ?_)
    refine aw_loopN 0 (fun l : List Ps => stOf [(0, pthv c), (4, accV l), (5, .int .i64 ((c.length : Int) - 1 - (l.length : Int)))] (accH l) 1) (fun l => l.length ≤ c.length ∧ l = c.reverse.take l.length) (fun l => c.length - l.length) [] ⟨Nat.zero_le _, rfl⟩
      (.inl (le_by ⟨rfl, rfl, int_eq hw0, trivial⟩ trivial (Nat.zero_le _))) (by kernel_rfl) ?_
    rintro l ⟨hi, hl0⟩ P hP
    refine br (fun g => ?_) (fun g => ?_)
    · have g : l.length < c.length := by have : (c.length : Int) - 1 - (l.length : Int) ≥ 0 := g; omega
      have ei : (c.length : Int) - 1 - (l.length : Int) = ((c.length - 1 - l.length : Nat) : Int) := by omega
      obtain ⟨p, hp⟩ := get_of (l := c) (i := c.length - 1 - l.length) (by omega)
      have hp2 : c.reverse[l.length]? = some p := by rw [List.getElem?_reverse g]; exact hp
      have hq := ok.qd p (List.mem_of_getElem? hp)
      have hp20 := h20 p (List.mem_of_getElem? hp)
      have hpre := take_snoc hl0 hp2
      have hlen := snoc_len l p
      have hw : w64 ((c.length : Int) - 1 - (l.length : Int) - 1) = (c.length : Int) - 1 - ((l ++ [p]).length : Int) := by rw [w64_eq (by omega)]; omega
      have hx : (prow c)[((c.length : Int) - 1 - (l.length : Int)).toNat]? = some [AV.sl p] := by rw [ei]; exact prow_at hp
      have h00 : (0 : Int) ≤ (c.length : Int) - 1 - (l.length : Int) := by omega
      match l with
      | [] =>
        refine And.intro h00 (Exists.intro _ (And.intro hx ?_))
        refine And.intro rfl (And.intro (rowsOk4 hq.1) (And.intro (show (0 + p.length) * 64 ≤ 140737488355328 by omega) (And.intro (show 0 + p.length ≤ maxLen by simp only [maxLen]; omega) ?_)))
        refine And.intro (Nat.le_refl 1) (And.intro (by simp) (And.intro len_one (And.intro len_one2 ?_)))
        refine hP [p] _ ?_ ⟨by simp at hlen g ⊢; omega, hpre⟩ (by simp at g ⊢; omega)
        exact leR_by [(0, 4)] [2] rfl rfl (Nat.zero_le _) ⟨.inl rfl, ⟨by decide, by kernel_rfl⟩, int_eq hw, trivial⟩ ⟨⟨rfl, rfl, _, rfl, cvs_snoc (k := 2) (l := []) (List.mem_singleton.2 rfl) rfl (Nat.zero_add _) (nil_app p).symm⟩, trivial⟩
      | x :: xs =>
        refine And.intro h00 (Exists.intro _ (And.intro hx ?_))
        refine And.intro rfl (And.intro (rowsOk4 hq.1) (And.intro (show (0 + p.length) * 64 ≤ 140737488355328 by omega) (And.intro (show 0 + p.length ≤ maxLen by simp only [maxLen]; omega) ?_)))
        refine And.intro (show (x :: xs).length = ((x :: xs).map AV.sl).length by simp) (And.intro (Nat.le_refl 1) (And.intro (show ((x :: xs).length + 1) * 24 ≤ 140737488355328 by omega) (And.intro (show (x :: xs).length + 1 ≤ maxLen by simp only [maxLen]; omega) ?_)))
        refine forceL_by rfl ?_
        refine hP ((x :: xs) ++ [p]) _ ?_ ⟨by omega, hpre⟩ (by omega)
        refine leR_by [(0, 4)] [2] rfl rfl (Nat.zero_le _) ⟨.inl rfl, ⟨by decide, ?_⟩, int_eq hw, trivial⟩ ⟨⟨rfl, ones_sl _, _, rfl, cvs_snoc (k := 2) (l := x :: xs) (List.mem_singleton.2 rfl) rfl (Nat.zero_add _) (nil_app p).symm⟩, trivial⟩
        show AV.ms 4 0 ((x :: xs).length + 1) = AV.ms 4 0 ((x :: xs) ++ [p]).length
        rw [hlen]
    · have g : ¬ l.length < c.length := by have : ¬ (c.length : Int) - 1 - (l.length : Int) ≥ 0 := g; omega
      rw [List.take_of_length_le (by simp; omega)] at hl0
      have hne : 0 < l.length := by omega
      rw [← hl0]
      match l, hne with
      | x :: xs, _ =>
        refine And.intro (Or.inr rfl) (And.intro (show 0 + (x :: xs).length ≤ ((x :: xs).map AV.sl).length by simp) ?_)
        rw [out_eq (x :: xs)]
        refine toDs_sl _ ?_
        rw [prow_map]
        rfl

theorem rjoin_spec {a b : List Ps} (ha : QDc a) (hb : QDc b) : Spec Tryz.prog [] 28 [pthv a, pthv b] (joinF a b) := by
  have la : ((prow a).length : Int) = a.length := by rw [prow_len]
  have lb : ((prow b).length : Int) = b.length := by rw [prow_len]
  have ia := risPath_spec ha
  have ib := risPath_spec hb
  cases ea : pathB a with
  | false =>
    rw [ea] at ia
    rw [show joinF a b = .tup [.sl [], .int .i64 170] by unfold joinF joinB; rw [ea]; rfl]
    refine spec_fn T_ok mixed_ok 0 Tryz.func28 fn_ok28 (by kernel_rfl) ?_
    refine And.intro (by kernel_rfl) ?_
    first | refine Exists.intro _ (And.intro (ia) ?_) | refine Hn_by (Exists.intro _ (And.intro (ia) ?_))
    repeat (first | refine gT ?_ | refine gF ?_ | refine brT ?_ | refine brF ?_)
    exact And.intro (Or.inr rfl) rfl
  | true =>
  cases eb : pathB b with
  | false =>
    rw [ea] at ia
    rw [eb] at ib
    rw [show joinF a b = .tup [.sl [], .int .i64 170] by unfold joinF joinB; rw [ea, eb]; rfl]
    refine spec_fn T_ok mixed_ok 0 Tryz.func28 fn_ok28 (by kernel_rfl) ?_
    refine And.intro (by kernel_rfl) ?_
    first | refine Exists.intro _ (And.intro (ia) ?_) | refine Hn_by (Exists.intro _ (And.intro (ia) ?_))
    repeat (first | refine gT ?_ | refine gF ?_ | refine brT ?_ | refine brF ?_)
    first | refine Exists.intro _ (And.intro (ib) ?_) | refine Hn_by (Exists.intro _ (And.intro (ib) ?_))
    repeat (first | refine gT ?_ | refine gF ?_ | refine brT ?_ | refine brF ?_)
    exact And.intro (Or.inr rfl) rfl
  | true =>
  obtain ⟨oka, ⟨a24, a0⟩, a20⟩ := okc_of ea
  obtain ⟨okb, ⟨b24, b0⟩, b20⟩ := okc_of eb
  rw [ea] at ia
  rw [eb] at ib
  have hw : w64 (((prow a).length : Int) - 1) = ((a.length - 1 : Nat) : Int) := by rw [w64_eq (by omega)]; omega
  have a1 := getD_at (c := a) (i := a.length - 1) (by omega)
  have a2 := getD_at (c := b) (i := 0) b0
  have q1 := oka _ (List.mem_of_getElem? a1)
  have q2 := okb _ (List.mem_of_getElem? a2)
  have s := rsame_spec q1.1 (okb.qd _ (List.mem_of_getElem? a2)).1 q1.2
  have hi : (prow a)[(w64 (((prow a).length : Int) - 1)).toNat]? = some [AV.sl (a.getD (a.length - 1) [])] := by rw [hw]; exact prow_at a1
  cases es : same (a.getD (a.length - 1) []) (b.getD 0 []) with
  | false =>
    rw [es] at s
    rw [show joinF a b = .tup [.sl [], .int .i64 170] by unfold joinF joinB; rw [ea, eb, es]; rfl]
    refine spec_fn T_ok mixed_ok 0 Tryz.func28 fn_ok28 (by kernel_rfl) ?_
    refine And.intro (by kernel_rfl) ?_
    first | refine Exists.intro _ (And.intro (ia) ?_) | refine Hn_by (Exists.intro _ (And.intro (ia) ?_))
    repeat (first | refine gT ?_ | refine gF ?_ | refine brT ?_ | refine brF ?_)
    first | refine Exists.intro _ (And.intro (ib) ?_) | refine Hn_by (Exists.intro _ (And.intro (ib) ?_))
    repeat (first | refine gT ?_ | refine gF ?_ | refine brT ?_ | refine brF ?_)
    refine And.intro (show 0 ≤ w64 (((prow a).length : Int) - 1) by omega) (Exists.intro _ (And.intro hi ?_))
    repeat (first | refine gT ?_ | refine gF ?_ | refine brT ?_ | refine brF ?_)
    refine And.intro (Int.le_refl 0) (Exists.intro _ (And.intro (prow_at a2) ?_))
    repeat (first | refine gT ?_ | refine gF ?_ | refine brT ?_ | refine brF ?_)
    first | refine Exists.intro _ (And.intro (s) ?_) | refine Hn_by (Exists.intro _ (And.intro (s) ?_))
    repeat (first | refine gT ?_ | refine gF ?_ | refine brT ?_ | refine brF ?_)
    exact And.intro (Or.inr rfl) rfl
  | true =>
  rw [es] at s
  have hw2 : w64 (w64 (((prow a).length : Int) + ((prow b).length : Int)) - 1) = (a.length : Int) + b.length - 1 := by rw [w64_eq (n := ((prow a).length : Int) + ((prow b).length : Int)) (by omega), w64_eq (by omega)]; omega
  by_cases hl : a.length + b.length ≤ 25
  rotate_left
  · rw [show joinF a b = .tup [.sl [], .int .i64 170] by unfold joinF joinB; rw [ea, eb, es, decide_eq_false hl]; rfl]
    refine spec_fn T_ok mixed_ok 0 Tryz.func28 fn_ok28 (by kernel_rfl) ?_
    refine And.intro (by kernel_rfl) ?_
    first | refine Exists.intro _ (And.intro (ia) ?_) | refine Hn_by (Exists.intro _ (And.intro (ia) ?_))
    repeat (first | refine gT ?_ | refine gF ?_ | refine brT ?_ | refine brF ?_)
    first | refine Exists.intro _ (And.intro (ib) ?_) | refine Hn_by (Exists.intro _ (And.intro (ib) ?_))
    repeat (first | refine gT ?_ | refine gF ?_ | refine brT ?_ | refine brF ?_)
    refine And.intro (show 0 ≤ w64 (((prow a).length : Int) - 1) by omega) (Exists.intro _ (And.intro hi ?_))
    repeat (first | refine gT ?_ | refine gF ?_ | refine brT ?_ | refine brF ?_)
    refine And.intro (Int.le_refl 0) (Exists.intro _ (And.intro (prow_at a2) ?_))
    repeat (first | refine gT ?_ | refine gF ?_ | refine brT ?_ | refine brF ?_)
    first | refine Exists.intro _ (And.intro (s) ?_) | refine Hn_by (Exists.intro _ (And.intro (s) ?_))
    repeat (first | refine gT ?_ | refine gF ?_ | refine brT ?_ | refine brF ?_)
    refine br (fun _ => ?_) (fun g => absurd (show w64 (w64 (((prow a).length : Int) + ((prow b).length : Int)) - 1) > 24 by omega) g)
    exact And.intro (Or.inr rfl) rfl
  rw [show joinF a b = .tup [pthv (a ++ b.drop 1), .int .i64 0] by unfold joinF joinB; rw [ea, eb, es, decide_eq_true hl]; rfl]
  refine spec_fn T_ok mixed_ok 0 Tryz.func28 fn_ok28 (by kernel_rfl) ?_
  refine And.intro (by kernel_rfl) ?_
  first | refine Exists.intro _ (And.intro (ia) ?_) | refine Hn_by (Exists.intro _ (And.intro (ia) ?_))
  repeat (first | refine gT ?_ | refine gF ?_ | refine brT ?_ | refine brF ?_)
  first | refine Exists.intro _ (And.intro (ib) ?_) | refine Hn_by (Exists.intro _ (And.intro (ib) ?_))
  repeat (first | refine gT ?_ | refine gF ?_ | refine brT ?_ | refine brF ?_)
  refine And.intro (show 0 ≤ w64 (((prow a).length : Int) - 1) by omega) (Exists.intro _ (And.intro hi ?_))
  repeat (first | refine gT ?_ | refine gF ?_ | refine brT ?_ | refine brF ?_)
  refine And.intro (Int.le_refl 0) (Exists.intro _ (And.intro (prow_at a2) ?_))
  repeat (first | refine gT ?_ | refine gF ?_ | refine brT ?_ | refine brF ?_)
  first | refine Exists.intro _ (And.intro (s) ?_) | refine Hn_by (Exists.intro _ (And.intro (s) ?_))
  repeat (first | refine gT ?_ | refine gF ?_ | refine brT ?_ | refine brF ?_)
  refine br (fun g => absurd (show w64 (w64 (((prow a).length : Int) + ((prow b).length : Int)) - 1) > 24 from g) (by omega)) (fun _ => ?_)
  refine aw_loopN 0 (fun l : List Ps => stOf [(0, pthv a), (1, pthv b), (6, accV l), (7, .int .i64 (l.length : Int))] (accH l) 1) (fun l => l.length ≤ a.length ∧ l = a.take l.length) (fun l => a.length - l.length) [] ⟨Nat.zero_le _, rfl⟩
    (.inl (le_by ⟨rfl, rfl, rfl, rfl, trivial⟩ trivial (Nat.zero_le _))) (by kernel_rfl) ?_
  rintro l ⟨hi, hl0⟩ P hP
  refine br (fun g => ?_) (fun g => ?_)
  · have g : l.length < a.length := by have : (l.length : Int) < ((prow a).length : Int) := g; omega
    obtain ⟨p, hp⟩ := get_of g
    have hq := oka.qd p (List.mem_of_getElem? hp)
    have hp20 := a20 p (List.mem_of_getElem? hp)
    have hpre := take_snoc hl0 hp
    have hlen := snoc_len l p
    have hw := w64_succ g (by omega)
    rw [← hlen] at hw
    match l with
    | [] =>
      refine And.intro (Int.natCast_nonneg _) (Exists.intro _ (And.intro (prow_at hp) ?_))
      refine And.intro rfl (And.intro (rowsOk4 hq.1) (And.intro (show (0 + p.length) * 64 ≤ 140737488355328 by omega) (And.intro (show 0 + p.length ≤ maxLen by simp only [maxLen]; omega) ?_)))
      refine And.intro (Nat.le_refl 1) (And.intro (by simp) (And.intro len_one (And.intro len_one2 ?_)))
      refine hP [p] _ ?_ ⟨by simp at hlen g ⊢; omega, hpre⟩ (by simp at g ⊢; omega)
      exact leR_by [(0, 4)] [2] rfl rfl (Nat.zero_le _) ⟨.inl rfl, .inl rfl, ⟨by decide, by kernel_rfl⟩, int_eq hw, trivial⟩ ⟨⟨rfl, rfl, _, rfl, cvs_snoc (k := 2) (l := []) (List.mem_singleton.2 rfl) rfl (Nat.zero_add _) (nil_app p).symm⟩, trivial⟩
    | x :: xs =>
      refine And.intro (Int.natCast_nonneg _) (Exists.intro _ (And.intro (prow_at hp) ?_))
      refine And.intro rfl (And.intro (rowsOk4 hq.1) (And.intro (show (0 + p.length) * 64 ≤ 140737488355328 by omega) (And.intro (show 0 + p.length ≤ maxLen by simp only [maxLen]; omega) ?_)))
      refine And.intro (show (x :: xs).length = ((x :: xs).map AV.sl).length by simp) (And.intro (Nat.le_refl 1) (And.intro (show ((x :: xs).length + 1) * 24 ≤ 140737488355328 by omega) (And.intro (show (x :: xs).length + 1 ≤ maxLen by simp only [maxLen]; omega) ?_)))
      refine forceL_by rfl ?_
      refine hP ((x :: xs) ++ [p]) _ ?_ ⟨by omega, hpre⟩ (by omega)
      refine leR_by [(0, 4)] [2] rfl rfl (Nat.zero_le _) ⟨.inl rfl, .inl rfl, ⟨by decide, ?_⟩, int_eq hw, trivial⟩ ⟨⟨rfl, ones_sl _, _, rfl, cvs_snoc (k := 2) (l := x :: xs) (List.mem_singleton.2 rfl) rfl (Nat.zero_add _) (nil_app p).symm⟩, trivial⟩
      show AV.ms 4 0 ((x :: xs).length + 1) = AV.ms 4 0 ((x :: xs) ++ [p]).length
      rw [hlen]
  have g : ¬ l.length < a.length := by have : ¬ (l.length : Int) < ((prow a).length : Int) := g; omega
  rw [List.take_of_length_le (by omega)] at hl0
  subst hl0
  match l, a0 with
  | x :: xs, _ =>
  refine aw_loopN 1 (fun l2 : List Ps => stOf [(1, pthv b), (6, ac2V (x :: xs) l2), (8, .int .i64 ((l2.length + 1 : Nat) : Int))] (ac2H (x :: xs) l2) 2) (fun l2 => l2.length ≤ (b.drop 1).length ∧ l2 = (b.drop 1).take l2.length) (fun l2 => (b.drop 1).length - l2.length) [] ⟨Nat.zero_le _, rfl⟩
    (.inl (le_by ⟨rfl, rfl, rfl, trivial⟩ ⟨rfl, trivial⟩ (show 1 ≤ 2 by decide))) (by kernel_rfl) ?_
  clear hP P
  have hbl : (b.drop 1).length = b.length - 1 := List.length_drop
  rintro l2 ⟨hi, hl2⟩ P hP
  refine br (fun g => ?_) (fun g => ?_)
  · have g : l2.length + 1 < b.length := by have : ((l2.length + 1 : Nat) : Int) < ((prow b).length : Int) := g; omega
    obtain ⟨p, hp⟩ := get_of g
    have hq := okb.qd p (List.mem_of_getElem? hp)
    have hp20 := b20 p (List.mem_of_getElem? hp)
    have hpre := drop_take hl2 hp
    have hlen := snoc_len l2 p
    have hw : w64 (((l2.length + 1 : Nat) : Int) + 1) = (((l2 ++ [p]).length + 1 : Nat) : Int) := by rw [hlen]; exact w64_succ g (by omega)
    match l2 with
    | [] =>
      refine And.intro (Int.natCast_nonneg _) (Exists.intro _ (And.intro (prow_at hp) ?_))
      refine And.intro rfl (And.intro (rowsOk4 hq.1) (And.intro (show (0 + p.length) * 64 ≤ 140737488355328 by omega) (And.intro (show 0 + p.length ≤ maxLen by simp only [maxLen]; omega) ?_)))
      refine And.intro (show (x :: xs).length = ((x :: xs).map AV.sl).length by simp) (And.intro (Nat.le_refl 1) (And.intro (show ((x :: xs).length + 1) * 24 ≤ 140737488355328 by omega) (And.intro (show (x :: xs).length + 1 ≤ maxLen by simp only [maxLen]; omega) ?_)))
      refine forceL_by rfl ?_
      refine hP [p] _ ?_ ⟨by simp at hlen g ⊢; omega, hpre⟩ (by simp at g ⊢; omega)
      refine leR_by [(1, 5)] [3] rfl rfl (by decide) ⟨.inl rfl, ⟨by decide, ?_⟩, int_eq hw, trivial⟩ ⟨⟨rfl, ones_sl _, _, rfl, cvs_snoc (k := 3) (l := x :: xs) (List.mem_singleton.2 rfl) rfl (Nat.zero_add _) (nil_app p).symm⟩, trivial⟩
      show AV.ms 5 0 ((x :: xs).length + 1) = AV.ms 5 0 ((x :: xs) ++ [p]).length
      rw [List.length_append]; rfl
    | y :: ys =>
      have e4 : ((x :: xs) ++ (y :: ys)).length = (x :: xs).length + (y :: ys).length := List.length_append
      refine And.intro (Int.natCast_nonneg _) (Exists.intro _ (And.intro (prow_at hp) ?_))
      refine And.intro rfl (And.intro (rowsOk4 hq.1) (And.intro (show (0 + p.length) * 64 ≤ 140737488355328 by omega) (And.intro (show 0 + p.length ≤ maxLen by simp only [maxLen]; omega) ?_)))
      refine And.intro (show ((x :: xs) ++ (y :: ys)).length = (((x :: xs) ++ (y :: ys)).map AV.sl).length by simp) (And.intro (Nat.le_refl 1) (And.intro (show (((x :: xs) ++ (y :: ys)).length + 1) * 24 ≤ 140737488355328 by omega) (And.intro (show ((x :: xs) ++ (y :: ys)).length + 1 ≤ maxLen by simp only [maxLen]; omega) ?_)))
      refine forceL_by rfl ?_
      refine hP ((y :: ys) ++ [p]) _ ?_ ⟨by omega, hpre⟩ (by omega)
      refine leR_by [(1, 5)] [3] rfl rfl (by decide) ⟨.inl rfl, ⟨by decide, ?_⟩, int_eq hw, trivial⟩ ⟨⟨rfl, ones_sl _, _, rfl, ?_⟩, trivial⟩
      · show AV.ms 5 0 (((x :: xs) ++ (y :: ys)).length + 1) = AV.ms 5 0 ((x :: xs) ++ ((y :: ys) ++ [p])).length
        rw [← List.append_assoc, List.length_append (bs := [p])]; rfl
      · show cvs _ _ _ _ (((x :: xs) ++ ((y :: ys) ++ [p])).map AV.sl) _
        rw [← List.append_assoc]
        exact cvs_snoc (k := 3) (l := (x :: xs) ++ (y :: ys)) (List.mem_singleton.2 rfl) rfl (Nat.zero_add _) (nil_app p).symm
  · have g : ¬ l2.length + 1 < b.length := by have : ¬ ((l2.length + 1 : Nat) : Int) < ((prow b).length : Int) := g; omega
    rw [List.take_of_length_le (by omega)] at hl2
    rw [← hl2]
    match l2 with
    | [] =>
      rw [List.append_nil]
      refine And.intro (Or.inr rfl) (And.intro (show 0 + (x :: xs).length ≤ ((x :: xs).map AV.sl).length by simp) ?_)
      rw [out_eq (x :: xs)]
      refine toDs_sl _ ?_
      rw [prow_map]
      rfl
    | y :: ys =>
      refine And.intro (Or.inr rfl) (And.intro (show 0 + (x :: xs ++ y :: ys).length ≤ ((x :: xs ++ y :: ys).map AV.sl).length by simp) ?_)
      rw [out_eq (x :: xs ++ y :: ys)]
      refine toDs_sl _ ?_
      rw [prow_map]
      rfl
end Ab
