import Derived.Test.YteghdokklckbhaaDoorXMod
import Derived.IntWalk
/-!
The contract of modular.Prime.
-/
open Go Go.Proofs
namespace Ab
set_option maxRecDepth 100000


theorem half_lt' {n : Int} (h : n > 0) (h2 : n ≤ 9223372036854775807) : (w64 (n.tdiv 2)).toNat < n.toNat := by
  have e : n.tdiv 2 = n / 2 := Int.tdiv_eq_ediv_of_nonneg (by omega)
  rw [w64, Go.IntWalk.i64_in _ (by rw [e]; omega), e]; omega

/-- the odd part and the number of twos -/
def splitF (odd twos : Int) : Int × Int :=
  if _h : (odd > 0 ∧ odd ≤ 9223372036854775807) ∧ (odd.tmod 2 == 0) = true then splitF (w64 (odd.tdiv 2)) (w64 (twos + 1)) else (odd, twos)
termination_by odd.toNat
decreasing_by exact half_lt' _h.1.1 _h.1.2

def passF (p x : Int) (ok : Bool) (i lim : Int) : Bool :=
  if _h : i < lim then passF p (tm x x p) (bif ok then true else tm x x p == w64 (p - 1)) (i + 1) lim else ok
termination_by (lim - i).toNat
decreasing_by omega

def strongF (p odd twos b : Int) : Bool := passF p (powF p b odd 1) (bif powF p b odd 1 == 1 then true else powF p b odd 1 == w64 (p - 1)) 0 (w64 (twos - 1))
def allF (p odd twos : Int) : List Int → Bool
  | [] => true
  | b :: bs => if b.tmod p == 0 then allF p odd twos bs else if strongF p odd twos b then allF p odd twos bs else false
def primeF (p : Int) : Bool :=
  if p < 3 then false else if p > 2147483647 then false else if p.tmod 2 == 0 then false else allF p (splitF (w64 (p - 1)) 0).1 (splitF (w64 (p - 1)) 0).2 [2, 3, 5, 7]

def glB4 : List (Nat × AV) := [(0, .er [.int .i64 2, .int .i64 3, .int .i64 5, .int .i64 7] 0)]

theorem prime_spec (p : Int) : Spec Tryd.prog glB4 13 [.int .i64 p] (.bool (primeF p)) := by
  refine spec_fn T_ok mixed_ok 0 Tryd.func13 fn_ok13 (by kernel_rfl) ?_
  refine And.intro (fun h1 => ?_) (fun h1 => ?_)
  · refine And.intro (fun _ => ?_) (fun h => nomatch h)
    have h1' : ¬ p < 3 := of_decide_eq_false h1
    refine And.intro (fun h2 => ?_) (fun h2 => ?_)
    · have h2' : ¬ p > 2147483647 := of_decide_eq_false h2
      refine And.intro (fun _ => ?_) (fun h => nomatch h)
      refine And.intro (by decide) ?_
      refine And.intro (fun _ => ?_) (fun h => nomatch h)
      refine And.intro (fun h3 => ?_) (fun h3 => ?_)
      · refine And.intro (Or.inr rfl) ?_
        show AV.bool false = _
        have h3' : (p.tmod 2 == 0) = true := h3
        unfold primeF
        rw [if_neg h1', if_neg h2', if_pos h3']
      · have h3' : ¬ (p.tmod 2 == 0) = true := by
          have h4 : (p.tmod 2 == 0) = false := h3
          rw [h4]; simp
        have hr : primeF p = allF p (splitF (w64 (p - 1)) 0).1 (splitF (w64 (p - 1)) 0).2 [2, 3, 5, 7] := by
          unfold primeF
          rw [if_neg h1', if_neg h2', if_neg h3']
        rw [hr]
        have e1 : w64 (p - 1) = p - 1 := Go.IntWalk.i64_in _ (by omega)
        refine aw_loop (fun x : Int × Int => stOf [(0, .int .i64 p), (3, .int .i64 x.1), (4, .int .i64 x.2)] [] 0)
          (fun x => (x.1 > 0 ∧ x.1 ≤ 9223372036854775807) ∧ splitF x.1 x.2 = splitF (w64 (p - 1)) 0) (fun x => x.1.toNat) (w64 (p - 1), 0) ⟨by rw [e1]; omega, rfl⟩ (le_of ?_ ?_ ?_) ?_
        · intro q hq
          simp only [List.mem_cons, List.not_mem_nil, or_false] at hq
          rcases hq with rfl | rfl | rfl <;> rfl
        · intro q hq; cases hq
        · exact Nat.le_refl _
        · rintro ⟨odd, twos⟩ ⟨hb, hsp⟩ P hP
          simp only at hb hsp
          refine And.intro (by decide) ?_
          refine And.intro (fun h4 => ?_) (fun h4 => ?_)
          · have h4' : (odd.tmod 2 == 0) = true := h4
            rw [splitF, dif_pos ⟨hb, h4'⟩] at hsp
            refine And.intro (by decide) ?_
            have e : odd.tdiv 2 = odd / 2 := Int.tdiv_eq_ediv_of_nonneg (by omega)
            have e2 : w64 (odd.tdiv 2) = odd / 2 := by rw [w64, Go.IntWalk.i64_in _ (by rw [e]; omega), e]
            have e3 : odd > 1 := by
              by_cases h : 1 < odd
              · exact h
              · have : odd = 1 := by omega
                subst this; cases h4'
            refine hP (w64 (odd.tdiv 2), w64 (twos + 1)) _ (le_of ?_ ?_ ?_) ⟨by rw [e2]; omega, hsp⟩ (half_lt' hb.1 hb.2)
            · intro q hq
              simp only [List.mem_cons, List.not_mem_nil, or_false] at hq
              rcases hq with rfl | rfl | rfl <;> rfl
            · intro q hq; cases hq
            · exact Nat.le_refl _
          · have h4' : ¬ (odd.tmod 2 == 0) = true := by
              have h5 : (odd.tmod 2 == 0) = false := h4
              rw [h5]; simp
            rw [splitF, dif_neg (fun h => h4' h.2)] at hsp
            rw [← hsp]
            have hp0 : p ≠ 0 := by omega
            clear hP hsp h4 h4' hb
            refine aw_loop (fun i : Nat => stOf [(0, .int .i64 p), (3, .int .i64 odd), (4, .int .i64 twos), (29, .agg [.int .i64 2, .int .i64 3, .int .i64 5, .int .i64 7]), (30, .int .i64 (i : Int))] [] 0)
              (fun i => i ≤ 4 ∧ allF p odd twos (([2, 3, 5, 7] : List Int).drop i) = allF p odd twos [2, 3, 5, 7]) (fun i => 4 - i) 0 ⟨by omega, rfl⟩ (le_of ?_ ?_ ?_) ?_
            · intro q hq
              simp only [List.mem_cons, List.not_mem_nil, or_false] at hq
              rcases hq with rfl | rfl | rfl | rfl | rfl <;> rfl
            · intro q hq; cases hq
            · exact Nat.le_refl _
            · rintro i ⟨hi, hall⟩ P hP
              refine And.intro (fun h5 => ?_) (fun h5 => ?_)
              · have h5' : (i : Int) < 4 := of_decide_eq_true h5
                have hi4 : i < 4 := by omega
                obtain ⟨b, hb1, hb2⟩ : ∃ b : Int, ([.int .i64 2, .int .i64 3, .int .i64 5, .int .i64 7] : List AV)[(i : Int).toNat]? = some (.int .i64 b) ∧ ([2, 3, 5, 7] : List Int).drop i = b :: ([2, 3, 5, 7] : List Int).drop (i + 1) := by
                  rcases i with _ | _ | _ | _ | i
                  · exact ⟨2, rfl, rfl⟩
                  · exact ⟨3, rfl, rfl⟩
                  · exact ⟨5, rfl, rfl⟩
                  · exact ⟨7, rfl, rfl⟩
                  · omega
                have hw : w64 ((i : Int) + 1) = ((i + 1 : Nat) : Int) := by rw [w64, Go.IntWalk.i64_in _ (by omega)]; rfl
                rw [hb2] at hall
                replace hall : (if b.tmod p == 0 then allF p odd twos (([2, 3, 5, 7] : List Int).drop (i + 1)) else if strongF p odd twos b then allF p odd twos (([2, 3, 5, 7] : List Int).drop (i + 1)) else false) = allF p odd twos [2, 3, 5, 7] := hall
                refine And.intro (by omega) (And.intro h5' (Exists.intro _ (And.intro hb1 ?_)))
                refine And.intro hp0 ?_
                refine And.intro (fun h6 => ?_) (fun h6 => ?_)
                · have h6' : (b.tmod p == 0) = true := h6
                  rw [if_pos h6'] at hall
                  refine hP (i + 1) _ (le_of ?_ ?_ ?_) ⟨by omega, hall⟩ (by omega)
                  · intro q hq
                    simp only [List.mem_cons, List.not_mem_nil, or_false] at hq
                    rcases hq with rfl | rfl | rfl | rfl | rfl <;> first | rfl | (show AV.int .i64 (w64 ((i : Int) + 1)) = _; rw [hw])
                  · intro q hq; cases hq
                  · exact Nat.le_refl _
                · have h6' : ¬ (b.tmod p == 0) = true := by
                    have h7 : (b.tmod p == 0) = false := h6
                    rw [h7]; simp
                  rw [if_neg h6'] at hall
                  refine Exists.intro _ (And.intro (power_spec glB4 _ _ _ hp0) ?_)
                  refine And.intro (fun h7 => ?_) (fun h7 => ?_)
                  · have h7' : (powF p b odd 1 == 1) = false := h7
                    refine And.intro (fun _ => ?_) (fun h => nomatch h)
                    refine And.intro (fun _ => ?_) (fun h => nomatch h)
                    refine And.intro (fun _ => ?_) (fun h => nomatch h)
                    refine aw_loop (fun x : Int × Bool × Int => stOf [(0, .int .i64 p), (3, .int .i64 odd), (4, .int .i64 twos), (29, .agg [.int .i64 2, .int .i64 3, .int .i64 5, .int .i64 7]), (30, .int .i64 (i : Int)), (7, .int .i64 x.1), (8, .bool x.2.1), (50, .int .i64 (w64 (twos - 1))), (51, .int .i64 x.2.2)] [] 0)
                      (fun x => 0 ≤ x.2.2 ∧ passF p x.1 x.2.1 x.2.2 (w64 (twos - 1)) = strongF p odd twos b) (fun x => (w64 (twos - 1) - x.2.2).toNat) (powF p b odd 1, (bif powF p b odd 1 == 1 then true else powF p b odd 1 == w64 (p - 1)), 0) ⟨Int.le_refl 0, rfl⟩ (le_of ?_ ?_ ?_) ?_
                    · intro q hq
                      simp only [List.mem_cons, List.not_mem_nil, or_false] at hq
                      rcases hq with rfl | rfl | rfl | rfl | rfl | rfl | rfl | rfl | rfl <;> first | rfl | (show _ = AV.bool (bif powF p b odd 1 == 1 then true else powF p b odd 1 == w64 (p - 1)); rw [h7']; rfl)
                    · intro q hq; cases hq
                    · exact Nat.le_refl _
                    · rintro ⟨x, ok, j⟩ ⟨hj, hpass⟩ P' hP'
                      simp only at hj hpass
                      refine And.intro (fun h8 => ?_) (fun h8 => ?_)
                      · have h8' : j < w64 (twos - 1) := of_decide_eq_true h8
                        rw [passF, dif_pos h8'] at hpass
                        have hlim : w64 (twos - 1) ≤ 9223372036854775807 := by rw [w64, Go.IntWalk.i64_left]; unfold Go.RowKit.wrap64; omega
                        have hw2 : w64 (j + 1) = j + 1 := by rw [w64, Go.IntWalk.i64_in _ (by omega)]
                        refine Exists.intro _ (And.intro (times_spec glB4 _ _ _ hp0) ?_)
                        refine And.intro (fun h9 => ?_) (fun h9 => ?_)
                        · subst h9
                          refine And.intro (fun _ => ?_) (fun h => nomatch h)
                          refine And.intro (fun _ => ?_) (fun h => nomatch h)
                          refine And.intro (fun _ => ?_) (fun h => nomatch h)
                          refine hP' (tm x x p, (tm x x p == w64 (p - 1)), j + 1) _ (le_of ?_ ?_ ?_) ⟨by show (0 : Int) ≤ j + 1; omega, hpass⟩ (by show (w64 (twos - 1) - (j + 1)).toNat < (w64 (twos - 1) - j).toNat; omega)
                          · intro q hq
                            simp only [List.mem_cons, List.not_mem_nil, or_false] at hq
                            rcases hq with rfl | rfl | rfl | rfl | rfl | rfl | rfl | rfl | rfl <;> first | rfl | (show AV.int .i64 (w64 (j + 1)) = _; rw [hw2])
                          · intro q hq; cases hq
                          · exact Nat.le_refl _
                        · subst h9
                          refine And.intro (fun h => nomatch h) (fun _ => ?_)
                          refine And.intro (fun h => nomatch h) (fun _ => ?_)
                          refine And.intro (fun h => nomatch h) (fun _ => ?_)
                          refine And.intro (fun _ => ?_) (fun h => nomatch h)
                          refine hP' (tm x x p, true, j + 1) _ (le_of ?_ ?_ ?_) ⟨by show (0 : Int) ≤ j + 1; omega, hpass⟩ (by show (w64 (twos - 1) - (j + 1)).toNat < (w64 (twos - 1) - j).toNat; omega)
                          · intro q hq
                            simp only [List.mem_cons, List.not_mem_nil, or_false] at hq
                            rcases hq with rfl | rfl | rfl | rfl | rfl | rfl | rfl | rfl | rfl <;> first | rfl | (show AV.int .i64 (w64 (j + 1)) = _; rw [hw2])
                          · intro q hq; cases hq
                          · exact Nat.le_refl _
                      · have h8' : ¬ j < w64 (twos - 1) := of_decide_eq_false h8
                        rw [passF, dif_neg h8'] at hpass
                        refine And.intro (fun h9 => ?_) (fun h9 => ?_)
                        · have h9' : ok = false := by cases ok; rfl; cases h9
                          rw [h9'] at hpass
                          rw [if_neg (by rw [← hpass]; simp)] at hall
                          refine And.intro (Or.inr rfl) ?_
                          show AV.bool false = _
                          rw [← hall]
                        · have h9' : ok = true := by cases ok; cases h9; rfl
                          rw [h9'] at hpass
                          rw [if_pos hpass.symm] at hall
                          refine hP (i + 1) _ (le_of ?_ ?_ ?_) ⟨by omega, hall⟩ (by omega)
                          · intro q hq
                            simp only [List.mem_cons, List.not_mem_nil, or_false] at hq
                            rcases hq with rfl | rfl | rfl | rfl | rfl <;> first | rfl | (show AV.int .i64 (w64 ((i : Int) + 1)) = _; rw [hw])
                          · intro q hq; cases hq
                          · exact Nat.le_refl _
                  · have h7' : (powF p b odd 1 == 1) = true := h7
                    refine And.intro (fun h => nomatch h) (fun _ => ?_)
                    refine And.intro (fun h => nomatch h) (fun _ => ?_)
                    refine And.intro (fun h => nomatch h) (fun _ => ?_)
                    refine And.intro (fun _ => ?_) (fun h => nomatch h)
                    refine aw_loop (fun x : Int × Bool × Int => stOf [(0, .int .i64 p), (3, .int .i64 odd), (4, .int .i64 twos), (29, .agg [.int .i64 2, .int .i64 3, .int .i64 5, .int .i64 7]), (30, .int .i64 (i : Int)), (7, .int .i64 x.1), (8, .bool x.2.1), (50, .int .i64 (w64 (twos - 1))), (51, .int .i64 x.2.2)] [] 0)
                      (fun x => 0 ≤ x.2.2 ∧ passF p x.1 x.2.1 x.2.2 (w64 (twos - 1)) = strongF p odd twos b) (fun x => (w64 (twos - 1) - x.2.2).toNat) (powF p b odd 1, (bif powF p b odd 1 == 1 then true else powF p b odd 1 == w64 (p - 1)), 0) ⟨Int.le_refl 0, rfl⟩ (le_of ?_ ?_ ?_) ?_
                    · intro q hq
                      simp only [List.mem_cons, List.not_mem_nil, or_false] at hq
                      rcases hq with rfl | rfl | rfl | rfl | rfl | rfl | rfl | rfl | rfl <;> first | rfl | (show _ = AV.bool (bif powF p b odd 1 == 1 then true else powF p b odd 1 == w64 (p - 1)); rw [h7']; rfl)
                    · intro q hq; cases hq
                    · exact Nat.le_refl _
                    · rintro ⟨x, ok, j⟩ ⟨hj, hpass⟩ P' hP'
                      simp only at hj hpass
                      refine And.intro (fun h8 => ?_) (fun h8 => ?_)
                      · have h8' : j < w64 (twos - 1) := of_decide_eq_true h8
                        rw [passF, dif_pos h8'] at hpass
                        have hlim : w64 (twos - 1) ≤ 9223372036854775807 := by rw [w64, Go.IntWalk.i64_left]; unfold Go.RowKit.wrap64; omega
                        have hw2 : w64 (j + 1) = j + 1 := by rw [w64, Go.IntWalk.i64_in _ (by omega)]
                        refine Exists.intro _ (And.intro (times_spec glB4 _ _ _ hp0) ?_)
                        refine And.intro (fun h9 => ?_) (fun h9 => ?_)
                        · subst h9
                          refine And.intro (fun _ => ?_) (fun h => nomatch h)
                          refine And.intro (fun _ => ?_) (fun h => nomatch h)
                          refine And.intro (fun _ => ?_) (fun h => nomatch h)
                          refine hP' (tm x x p, (tm x x p == w64 (p - 1)), j + 1) _ (le_of ?_ ?_ ?_) ⟨by show (0 : Int) ≤ j + 1; omega, hpass⟩ (by show (w64 (twos - 1) - (j + 1)).toNat < (w64 (twos - 1) - j).toNat; omega)
                          · intro q hq
                            simp only [List.mem_cons, List.not_mem_nil, or_false] at hq
                            rcases hq with rfl | rfl | rfl | rfl | rfl | rfl | rfl | rfl | rfl <;> first | rfl | (show AV.int .i64 (w64 (j + 1)) = _; rw [hw2])
                          · intro q hq; cases hq
                          · exact Nat.le_refl _
                        · subst h9
                          refine And.intro (fun h => nomatch h) (fun _ => ?_)
                          refine And.intro (fun h => nomatch h) (fun _ => ?_)
                          refine And.intro (fun h => nomatch h) (fun _ => ?_)
                          refine And.intro (fun _ => ?_) (fun h => nomatch h)
                          refine hP' (tm x x p, true, j + 1) _ (le_of ?_ ?_ ?_) ⟨by show (0 : Int) ≤ j + 1; omega, hpass⟩ (by show (w64 (twos - 1) - (j + 1)).toNat < (w64 (twos - 1) - j).toNat; omega)
                          · intro q hq
                            simp only [List.mem_cons, List.not_mem_nil, or_false] at hq
                            rcases hq with rfl | rfl | rfl | rfl | rfl | rfl | rfl | rfl | rfl <;> first | rfl | (show AV.int .i64 (w64 (j + 1)) = _; rw [hw2])
                          · intro q hq; cases hq
                          · exact Nat.le_refl _
                      · have h8' : ¬ j < w64 (twos - 1) := of_decide_eq_false h8
                        rw [passF, dif_neg h8'] at hpass
                        refine And.intro (fun h9 => ?_) (fun h9 => ?_)
                        · have h9' : ok = false := by cases ok; rfl; cases h9
                          rw [h9'] at hpass
                          rw [if_neg (by rw [← hpass]; simp)] at hall
                          refine And.intro (Or.inr rfl) ?_
                          show AV.bool false = _
                          rw [← hall]
                        · have h9' : ok = true := by cases ok; cases h9; rfl
                          rw [h9'] at hpass
                          rw [if_pos hpass.symm] at hall
                          refine hP (i + 1) _ (le_of ?_ ?_ ?_) ⟨by omega, hall⟩ (by omega)
                          · intro q hq
                            simp only [List.mem_cons, List.not_mem_nil, or_false] at hq
                            rcases hq with rfl | rfl | rfl | rfl | rfl <;> first | rfl | (show AV.int .i64 (w64 ((i : Int) + 1)) = _; rw [hw])
                          · intro q hq; cases hq
                          · exact Nat.le_refl _
              · have h5' : ¬ (i : Int) < 4 := of_decide_eq_false h5
                have : i = 4 := by omega
                subst this
                refine And.intro (Or.inr rfl) ?_
                show AV.bool true = _
                rw [← hall]; rfl
    · refine And.intro (fun h => nomatch h) (fun _ => ?_)
      refine And.intro (fun h => nomatch h) (fun _ => ?_)
      refine And.intro (fun _ => ?_) (fun h => nomatch h)
      refine And.intro (fun _ => ?_) (fun h => nomatch h)
      refine And.intro (Or.inr rfl) ?_
      show AV.bool false = _
      have h2' : p > 2147483647 := of_decide_eq_true h2
      unfold primeF
      rw [if_neg h1', if_pos h2']
  · refine And.intro (fun h => nomatch h) (fun _ => ?_)
    refine And.intro (fun _ => ?_) (fun h => nomatch h)
    refine And.intro (fun h => nomatch h) (fun _ => ?_)
    refine And.intro (fun h => nomatch h) (fun _ => ?_)
    refine And.intro (fun h => nomatch h) (fun _ => ?_)
    refine And.intro (fun _ => ?_) (fun h => nomatch h)
    refine And.intro (fun _ => ?_) (fun h => nomatch h)
    refine And.intro (Or.inr rfl) ?_
    show AV.bool false = _
    have h1' : p < 3 := of_decide_eq_true h1
    unfold primeF
    rw [if_pos h1']
end Ab
