import Derived.Test.YtinhfpljdjlomaaGreatXBase
/-!
Words for walks.
-/
open Go
namespace Ab

theorem brT {A B : Prop} (h : A) : (true = true → A) ∧ (true = false → B) := ⟨fun _ => h, fun e => nomatch e⟩
theorem brF {A B : Prop} (h : B) : (false = true → A) ∧ (false = false → B) := ⟨fun e => (nomatch e), fun _ => h⟩
theorem br {c : Prop} {_ : Decidable c} {A B : Prop} (h1 : c → A) (h2 : ¬ c → B) : (decide c = true → A) ∧ (decide c = false → B) := ⟨fun e => h1 (of_decide_eq_true e), fun e => h2 (of_decide_eq_false e)⟩
theorem brE {a b : Int} {A B : Prop} (h1 : a = b → A) (h2 : a ≠ b → B) : ((a == b) = true → A) ∧ ((a == b) = false → B) := ⟨fun e => h1 (eq_of_beq e), fun e => h2 (ne_of_beq_false e)⟩
theorem brN {a b : Int} {A B : Prop} (h1 : a ≠ b → A) (h2 : a = b → B) : ((a != b) = true → A) ∧ ((a != b) = false → B) := ⟨fun e => h1 (by simpa using e), fun e => h2 (by simpa using e)⟩
theorem brB {b : Bool} {A B : Prop} (h1 : b = true → A) (h2 : b = false → B) : (b = true → A) ∧ (b = false → B) := ⟨h1, h2⟩
/-! the like, behind || -/
theorem gT {A B : Prop} (h : B) : (true = false → A) ∧ (true = true → B) := ⟨fun e => (nomatch e), fun _ => h⟩
theorem gF {A B : Prop} (h : A) : (false = false → A) ∧ (false = true → B) := ⟨fun _ => h, fun e => nomatch e⟩
theorem gr {c : Prop} {_ : Decidable c} {A B : Prop} (h1 : c → B) (h2 : ¬ c → A) : (decide c = false → A) ∧ (decide c = true → B) := ⟨fun e => h2 (of_decide_eq_false e), fun e => h1 (of_decide_eq_true e)⟩
def AllTm : List (Nat × AV) → St → Prop
  | [], _ => True
  | (k, v) :: l, s => s.tm k = v ∧ AllTm l s
def AllHp : List (Nat × Blk) → St → Prop
  | [], _ => True
  | (k, v) :: l, s => s.hp k = some v ∧ AllHp l s
theorem AllTm.mem {s : St} : ∀ {l : List (Nat × AV)}, AllTm l s → ∀ p ∈ l, s.tm p.1 = p.2
  | [], _, p, hp => by cases hp
  | (k, v) :: l, h, p, hp => by
      rcases List.mem_cons.1 hp with e | hp
      · subst e; exact h.1
      · exact AllTm.mem h.2 p hp
theorem AllHp.mem {s : St} : ∀ {l : List (Nat × Blk)}, AllHp l s → ∀ p ∈ l, s.hp p.1 = some p.2
  | [], _, p, hp => by cases hp
  | (k, v) :: l, h, p, hp => by
      rcases List.mem_cons.1 hp with e | hp
      · subst e; exact h.1
      · exact AllHp.mem h.2 p hp
theorem le_by {l : List (Nat × AV)} {hp : List (Nat × Blk)} {nx : Nat} {s : St} (h1 : AllTm l s) (h2 : AllHp hp s) (h3 : s.nx ≤ nx) : Le (stOf l hp nx) s := le_of h1.mem h2.mem h3
/-- a slot that holds a number -/
theorem int_eq {k : IntKind} {a b : Int} (h : a = b) : AV.int k a = AV.int k b := by rw [h]

end Ab
