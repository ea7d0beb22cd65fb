import Derived.Test.YteghdokklckbhaaDoorXReduce
/-!
The examples at the head of each law, by a run.
-/
open Go Go.Proofs
namespace Ab
set_option maxRecDepth 1000000

def unrows : List (List AV) → Option (List Int)
  | [] => some []
  | [.int .u32 x] :: rs => match unrows rs with | some l => some (x :: l) | none => none
  | _ => none
theorem unrows_ok : ∀ {rs : List (List AV)} {l : List Int}, unrows rs = some l → rs = irows .u32 l
  | [], l, h => by cases h; rfl
  | r :: rs, l, h => by
      unfold unrows at h
      split at h
      · rename_i heq; cases heq
      · rename_i heq
        cases heq
        cases hu : unrows rs with
        | none => rw [hu] at h; cases h
        | some l' => rw [hu] at h; cases h; rw [unrows_ok hu]; rfl
      · cases h

def base1 : FuncId → List AV → Option AV := fun f ds => match Nat.beq f 38 with
  | true => match ds with
    | [.agg [.bool neg, .sl rows], .int .i64 p] => match unrows rows with
      | some l => guardB (and (not (dec (p = 0))) (Nat.ble l.length 1000)) (some (.int .i64 (reduceF neg l p)))
      | none => none
    | _ => none
  | false => none
theorem base1_ok (f : FuncId) (ds : List AV) (r : AV) (h : base1 f ds = some r) : Spec Tryd.prog glB4 f ds r := by
  unfold base1 at h
  cases hf : Nat.beq f 38 with
  | false => rw [hf] at h; cases h
  | true =>
    rw [hf] at h
    have := Nat.eq_of_beq_eq_true hf
    subst this
    simp only at h
    split at h
    · rename_i neg rows p
      cases hu : unrows rows with
      | none => rw [hu] at h; cases h
      | some l =>
        rw [hu] at h
        obtain ⟨h1, h2⟩ := guardB_some h
        simp only [Bool.and_eq_true, Bool.not_eq_true'] at h1
        cases h2
        rw [unrows_ok hu]
        have h3 := Nat.le_of_ble_eq_true h1.2
        exact reduce_spec glB4 neg l p (of_decide_eq_false h1.1) (by omega)
    · cases h
theorem sane_run : runF T glB4 FT 1000 base1 9 10 [] = some (.bool true) := by kernel_rfl
theorem sane_spec : Spec Tryd.prog glB4 10 [] (.bool true) := runF_spec T_ok mixed_ok FT_ok base1_ok 9 sane_run
end Ab
