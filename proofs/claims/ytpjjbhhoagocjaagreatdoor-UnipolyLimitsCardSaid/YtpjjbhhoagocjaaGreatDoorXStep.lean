import Derived.Test.YtpjjbhhoagocjaaGreatDoorXBase
open Go
namespace Ab
theorem brT {A B : Prop} (h : A) : (true = true -> A)∧(true = false -> B):=⟨fun _ => h,fun e => nomatch e⟩
theorem brF {A B : Prop} (h : B) : (false = true -> A)∧(false = false -> B):=⟨fun e => (nomatch e),fun _ => h⟩
theorem br {c : Prop} {_ : Decidable c} {A B : Prop} (h1 : c -> A) (h2 : ¬ c -> B) : (decide c = true -> A)∧(decide c = false -> B):=⟨fun e => h1 (of_decide_eq_true e),fun e => h2 (of_decide_eq_false e)⟩
theorem brE {a b : Int} {A B : Prop} (h1 : a = b -> A) (h2 : a ≠ b -> B) : ((a == b) = true -> A)∧((a == b) = false -> B):=⟨fun e => h1 (eq_of_beq e),fun e => h2 (ne_of_beq_false e)⟩
theorem brN {a b : Int} {A B : Prop} (h1 : a ≠ b -> A) (h2 : a = b -> B) : ((a != b) = true -> A)∧((a != b) = false -> B):=⟨fun e => h1 (by simpa using e),fun e => h2 (by simpa using e)⟩
theorem brB {b : Bool} {A B : Prop} (h1 : b = true -> A) (h2 : b = false -> B) : (b = true -> A)∧(b = false -> B):=⟨h1,h2⟩
theorem gT {A B : Prop} (h : B) : (true = false -> A)∧(true = true -> B):=⟨fun e => (nomatch e),fun _ => h⟩
theorem gF {A B : Prop} (h : A) : (false = false -> A)∧(false = true -> B):=⟨fun _ => h,fun e => nomatch e⟩
theorem gr {c : Prop} {_ : Decidable c} {A B : Prop} (h1 : c -> B) (h2 : ¬ c -> A) : (decide c = false -> A)∧(decide c = true -> B):=⟨fun e => h2 (of_decide_eq_false e),fun e => h1 (of_decide_eq_true e)⟩
theorem grE {a b : Int} {A B : Prop} (h1 : a = b -> B) (h2 : a ≠ b -> A) : ((a == b) = false -> A)∧((a == b) = true -> B):=⟨fun e => h2 (ne_of_beq_false e),fun e => h1 (eq_of_beq e)⟩
def AllTm : List (Nat × AV) -> St -> Prop
 | [],_ => True
 | (k,v) :: l,s => s.tm k = v∧AllTm l s
def AllHp : List (Nat × Blk) -> St -> Prop
 | [],_ => True
 | (k,v) :: l,s => s.hp k = some v∧AllHp l s
theorem AllTm.mem {s : St} : ∀ {l : List (Nat × AV)},AllTm l s -> ∀ p ∈ l,s.tm p.1 = p.2
 | [],_,p,hp => by cases hp
 | (k,v) :: l,h,p,hp => by
   rcases List.mem_cons.1 hp with e | hp
   ·subst e; exact h.1
   ·exact AllTm.mem h.2 p hp
theorem AllHp.mem {s : St} : ∀ {l : List (Nat × Blk)},AllHp l s -> ∀ p ∈ l,s.hp p.1 = some p.2
 | [],_,p,hp => by cases hp
 | (k,v) :: l,h,p,hp => by
   rcases List.mem_cons.1 hp with e | hp
   ·subst e; exact h.1
   ·exact AllHp.mem h.2 p hp
theorem le_by {l : List (Nat × AV)} {hp : List (Nat × Blk)} {nx : Nat} {s : St} (h1 : AllTm l s) (h2 : AllHp hp s) (h3 : s.nx <= nx) : Le (stOf l hp nx) s:=le_of h1.mem h2.mem h3
def AllTmC (n : Nat) : List (Nat × AV) -> St -> Prop
 | [],_ => True
 | (k,v) :: l,s => (s.tm k = v∧bl n v = true)∧AllTmC n l s
def AllHpC (n : Nat) : List (Nat × Blk) -> St -> Prop
 | [],_ => True
 | (k,v) :: l,s => ((s.hp k = some v∧Nat.blt k n = true)∧blB n (some v) = true)∧AllHpC n l s
theorem AllTmC.mem {n : Nat} {s : St} : ∀ {l : List (Nat × AV)},AllTmC n l s -> ∀ p ∈ l,s.tm p.1 = p.2∧bl n p.2 = true
 | [],_,p,hp => by cases hp
 | (k,v) :: l,h,p,hp => by
   rcases List.mem_cons.1 hp with e | hp
   ·subst e; exact h.1
   ·exact AllTmC.mem h.2 p hp
theorem AllHpC.mem {n : Nat} {s : St} : ∀ {l : List (Nat × Blk)},AllHpC n l s -> ∀ p ∈ l,(s.hp p.1 = some p.2∧Nat.blt p.1 n = true)∧blB n (some p.2) = true
 | [],_,p,hp => by cases hp
 | (k,v) :: l,h,p,hp => by
   rcases List.mem_cons.1 hp with e | hp
   ·subst e; exact h.1
   ·exact AllHpC.mem h.2 p hp
theorem leC_by {l : List (Nat × AV)} {hp : List (Nat × Blk)} {n nx : Nat} {s : St} (h1 : AllTmC n l s) (h2 : AllHpC n hp s) (h3 : n <= nx) : LeL n (stOf l hp nx) s:=by
 replace h1:=h1.mem
 replace h2:=h2.mem
 refine .inr (.inl ⟨fun t => ?_,fun k => ?_,h3⟩)
 ·show (look l t).getD .undef = .undef ∨ ((look l t).getD .undef = s.tm t∧bl n ((look l t).getD .undef) = true)
  induction l with
  | nil => exact .inl rfl
  | cons p l ih =>
   obtain ⟨j,v⟩:=p
   unfold look
   cases hb : Nat.beq t j with
   | true => right; rw [Nat.eq_of_beq_eq_true hb]; exact ⟨(h1 (j,v) (by simp)).1.symm,(h1 (j,v) (by simp)).2⟩
   | false => exact ih fun p hp => h1 p (by simp [hp])
 ·show look hp k = none ∨ ((look hp k = s.hp k∧Nat.blt k n = true)∧blB n (look hp k) = true)
  induction hp with
  | nil => exact .inl rfl
  | cons p l ih =>
   obtain ⟨j,v⟩:=p
   unfold look
   cases hb : Nat.beq k j with
   | true =>
    right
    have e:=Nat.eq_of_beq_eq_true hb
    subst e
    obtain ⟨⟨g1,g2⟩,g3⟩:=h2 (k,v) (by simp)
    exact ⟨⟨g1.symm,g2⟩,g3⟩
   | false => exact ih fun p hp => h2 p (by simp [hp])
def rnm (rn : List (Nat × Nat)) (k : Nat) : Nat:=(look rn k).getD k
def AllTmR (ρ : Nat -> Nat) (ks : List Nat) (nx : Nat) (h : Nat -> Option Blk) : List (Nat × AV) -> St -> Prop
 | [],_ => True
 | (k,v) :: l,s => cv ρ ks nx h v (s.tm k)∧AllTmR ρ ks nx h l s
def onesB : Blk -> Prop
 | .box cs => ones cs = true
 | .own _ cs => ones cs = true
 | _ => True
def AllHpR (ρ : Nat -> Nat) (ks : List Nat) (nx : Nat) (h : Nat -> Option Blk) : List (Nat × Blk) -> Prop
 | [] => True
 | (k,v) :: l => (Nat.blt k nx = true∧onesB v∧cvB ρ ks nx h (some v) (frz ks h (ρ k)))∧AllHpR ρ ks nx h l
def injB (ρ : Nat -> Nat) : List Nat -> Bool
 | [] => true
 | k :: l => and (l.all fun j => or (Nat.beq k j) (not (Nat.beq (ρ k) (ρ j)))) (injB ρ l)
theorem injB_ok {ρ : Nat -> Nat} : ∀ {l : List Nat},injB ρ l = true -> ∀ k ∈ l,∀ j ∈ l,ρ k = ρ j -> k = j
 | [],_,k,hk,_,_,_ => by cases hk
 | i :: l,h,k,hk,j,hj,e => by
  simp only [injB,Bool.and_eq_true,List.all_eq_true,Bool.or_eq_true,Bool.not_eq_true'] at h
  have nb : ∀ a,Nat.beq a a = true:=fun a => by induction a <;> simp_all [Nat.beq]
  rcases List.mem_cons.1 hk with rfl | hk2
  ·rcases List.mem_cons.1 hj with rfl | hj
   ·rfl
   ·rcases h.1 j hj with g | g
    ·exact Nat.eq_of_beq_eq_true g
    ·rw [e,nb] at g; cases g
  ·rcases List.mem_cons.1 hj with rfl | hj
   ·rcases h.1 k hk2 with g | g
    ·exact (Nat.eq_of_beq_eq_true g).symm
    ·rw [e,nb] at g; cases g
   ·exact injB_ok h.2 k hk2 j hj e
theorem leR_by {l : List (Nat × AV)} {hp : List (Nat × Blk)} {n nx : Nat} {s : St} (rn : List (Nat × Nat)) (ks : List Nat) (h0 : (rn.all fun p => Nat.ble n p.1) = true) (hi : injB (rnm rn) (hp.map fun p => p.1) = true) (h3 : n <= nx)
  (h1 : AllTmR (rnm rn) ks nx s.hp l s) (h2 : AllHpR (rnm rn) ks nx s.hp hp) : LeL n (stOf l hp nx) s:=by
 have hm : ∀ k,look hp k ≠ none -> k ∈ hp.map fun p => p.1:=fun k hk => by
  clear hi h2
  induction hp with
  | nil => exact absurd rfl hk
  | cons p l ih =>
   obtain ⟨j,v⟩:=p
   unfold look at hk
   cases hb : Nat.beq k j with
   | true => rw [Nat.eq_of_beq_eq_true hb]; simp
   | false => rw [hb] at hk; exact List.mem_cons_of_mem _ (ih hk)
 refine .inr (.inr ⟨rnm rn,ks,fun k hk => ?_,fun t => ?_,fun k => ?_,fun k k' hk hk' e => injB_ok hi k (hm k hk) k' (hm k' hk') e,fun k cs hk => ?_,h3⟩)
 ·clear h1 h2 hi
  unfold rnm
  induction rn with
  | nil => rfl
  | cons p l ih =>
   obtain ⟨j,v⟩:=p
   simp only [List.all_cons,Bool.and_eq_true] at h0
   have:=Nat.le_of_ble_eq_true h0.1
   unfold look
   rw [beq_ne (by omega : k ≠ j)]
   exact ih h0.2
 ·show cv (rnm rn) ks nx s.hp ((look l t).getD .undef) (s.tm t)
  clear h2 hi hm
  induction l with
  | nil => unfold look Option.getD cv; trivial
  | cons p l ih =>
   obtain ⟨j,v⟩:=p
   unfold look
   cases hb : Nat.beq t j with
   | true => rw [Nat.eq_of_beq_eq_true hb]; exact h1.1
   | false => exact ih h1.2
 ·show look hp k = none ∨ (k < nx∧cvB (rnm rn) ks nx s.hp (look hp k) (frz ks s.hp (rnm rn k)))
  clear h1 hi hm
  induction hp with
  | nil => exact .inl rfl
  | cons p l ih =>
   obtain ⟨j,v⟩:=p
   unfold look
   cases hb : Nat.beq k j with
   | true =>
    right
    have e:=Nat.eq_of_beq_eq_true hb
    subst e
    exact ⟨blt_iff.1 h2.1.1,h2.1.2.2⟩
   | false => exact ih h2.2
 ·replace hk : look hp k = some (.box cs) ∨ ∃ et,look hp k = some (.own et cs):=hk
  clear h1 hi hm
  induction hp with
  | nil => rcases hk with hk | ⟨_,hk⟩ <;> cases hk
  | cons p l ih =>
   obtain ⟨j,v⟩:=p
   unfold look at hk
   cases hb : Nat.beq k j with
   | true =>
    rw [hb] at hk
    simp only [cond_true,Option.some.injEq] at hk
    rcases hk with rfl | ⟨et,rfl⟩
    ·exact h2.1.2.1
    ·exact h2.1.2.1
   | false => rw [hb] at hk; first | exact ih h2.2 hk | exact ih h2.2 hk hk
theorem int_eq {k : IntKind} {a b : Int} (h : a = b) : AV.int k a = AV.int k b:=by rw [h]
end Ab
