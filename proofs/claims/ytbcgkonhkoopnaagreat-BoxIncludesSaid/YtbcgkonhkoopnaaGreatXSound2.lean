import Derived.Test.YtbcgkonhkoopnaaGreatXSound1
/-!
Soundness of code.
-/
namespace Ab
open Go Go.RowKit

theorem wp_loop' {ro : Option Nat} {P : Program} {body : Code} {Q : Exit → Act → World → Prop} (J : Nat → Act → World → Prop)
    (round : ∀ n a w, J n a w → body.wpIn (Fw ro) 0 P (Exit.then (fun a' w' => ∃ m, m < n ∧ J m a' w') Q) a w) {n : Nat} {a : Act} {w : World} (h : J n a w) : (Code.loop body).wpIn (Fw ro) 0 P Q a w := by
  classical
  refine wpIn_loop (fun a w => ∃ n, J n a w) (fun a w => if h : ∃ n, J n a w then Classical.choose (exists_least _ h) else 0) ⟨n, h⟩ fun a w hI => ?_
  have hJ := (Classical.choose_spec (exists_least _ hI)).1
  refine wpIn_mono (round _ a w hJ) fun e a' w' hq => ?_
  cases e with
  | normal =>
    obtain ⟨m, hm, hj⟩ := hq
    refine ⟨⟨m, hj⟩, ?_⟩
    have h1 : ∃ n, J n a' w' := ⟨m, hj⟩
    rw [dif_pos h1, dif_pos hI]
    exact Nat.lt_of_le_of_lt ((Classical.choose_spec (exists_least _ h1)).2 m hj) hm
  | _ => exact hq

/-- where an abstract run may end -/
def CPost (c : Ctx) (N : Nat) (F : Foot) (M : Nat → Option MB) (w : World) (Q : Exit → St → Prop) : Exit → Act → World → Prop := fun e a' w' =>
  ∃ s' F' M', Rel c N F' M' s' a' w' ∧ Tr F M w F' M' w' ∧ Q e s'

/-- the like, with other blocks that are not the call's own -/
abbrev Ctx.wa (c : Ctx) (al : List (Nat × Obj)) : Ctx := { c with al := al }

/-- what a round does -/
def RoundOk (c : Ctx) (l : Nat) (F : Foot) (M : Nat → Option MB) (w : World) (round : List AV → St → (St → Prop) → Prop) : Prop :=
  ∀ (args : List AV) (vals : List Value) (s1 : St) (K1 : St → Prop) (F1 : Foot) (M1 : Nat → Option MB) (w1 : World), round args s1 K1 → HR c F1 M1 s1.hp s1.nx w1 → Tr F M w F1 M1 w1 → RepML w1 F1 M1 args vals →
    YieldAt Fence.wide 0 c.P l ⟨vals⟩ w1 fun e w' => e = .returned (.bool true) ∧ ∃ s' F' M', s'.tm = s1.tm ∧ HR c F' M' s'.hp s'.nx w' ∧ Tr F1 M1 w1 F' M' w' ∧ K1 s'

/-- what an iterator does -/
def GSound (c : Ctx) (G : FuncId → List AV → St → (List AV → St → (St → Prop) → Prop) → (St → Prop) → Prop) : Prop :=
  ∀ (f : FuncId) (cap : List AV) (s : St) (round : List AV → St → (St → Prop) → Prop) (K : St → Prop) (F : Foot) (M : Nat → Option MB) (w : World) (caps : List Value) (l : Nat),
    G f cap s round K → HR c F M s.hp s.nx w → RepML w F M cap caps → RoundOk c l F M w round →
    enters c.P f = true ∧ Calls c.P f ⟨.func (.yield l) #[] #[] :: caps⟩ w fun e w' => ∃ v s' F' M', e = .returned v ∧ HR c F' M' s'.hp s'.nx w' ∧ Tr F M w F' M' w' ∧ K s'

/-- a world in which a block has turned that is neither data nor the call's own -/
theorem HR.other {c : Ctx} {F : Foot} {M : Nat → Option MB} {hp : Nat → Option Blk} {nx : Nat} {w w' : World} (h : HR c F M hp nx w) (al : List (Nat × Obj))
    (hb : ∀ b, (F b ∨ ∃ k m, M k = some m ∧ m.b = b) → w'.heap[b]? = w.heap[b]?) (hsz : w.heap.size ≤ w'.heap.size) (hB : Below c.w0.heap.size c.w0 w') (hal : AlOk c F M al w') (hba : BaseOk c F M w') :
    HR (c.wa al) F M hp nx w' := by
  have hc : ∀ b, F b → w'.heap[b]? = w.heap[b]? := fun b hf => hb b (.inl hf)
  have hm : ∀ k m, M k = some m → w'.heap[m.b]? = w.heap[m.b]? := fun k m hk => hb _ (.inr ⟨k, m, hk, rfl⟩)
  have hMC : ∀ (b : Nat), w'.heap[b]? = w.heap[b]? → ∀ (l : List AV) (o : Nat), RepMC w F M b l o → RepMC w' F M b l o := by
    intro b he l
    induction l with
    | nil => intro o _; unfold RepMC; trivial
    | cons x l ih =>
      intro o hx
      unfold RepMC at hx ⊢
      obtain ⟨⟨h0, v, h1, h2⟩, h3⟩ := hx
      exact ⟨⟨h0, v, (World.cell?_of_block he).trans h1, RepM.mono (fun _ h => h) hc (fun _ _ h => h) _ _ h2⟩, ih (o + 1) h3⟩
  refine ⟨fun k cs hk => ?_, fun k sz rows lv hk => ?_, fun k et cs hk => ?_, h.inj, h.dom, fun b hf => Nat.lt_of_lt_of_le (h.fl b hf) hsz, h.hist, fun g av hg => RepM.mono (fun _ h => h) hc (fun _ _ h => h) _ _ (h.gl g av hg), hB, fun k m hk => Nat.lt_of_lt_of_le (h.ml k m hk) hsz, hal, hba, h.res⟩
  · obtain ⟨m, h1, h2, h3, h4, h5, h6⟩ := h.box k cs hk
    exact ⟨m, h1, h2, h3, h4.keep (hm k m h1), h5, hMC _ (hm k m h1) cs 0 h6⟩
  · obtain ⟨m, h1, h0, h2, h3, h4, h5, h6, h7, h8⟩ := h.arr k sz rows lv hk
    exact ⟨m, h1, h0, h2, h3, h4, h5.keep (hm k m h1), h6, h7, RepR.keep (fun _ h => h) hc (hm k m h1) rows 0 h8⟩
  · obtain ⟨m, h1, h0, h2, h3, h4, h5, h6⟩ := h.own k et cs hk
    exact ⟨m, h1, h0, h2, h3, h4.keep (hm k m h1), h5, hMC _ (hm k m h1) cs 0 h6⟩

theorem putObj_below {B : Nat} {w0 w : World} (h : Below B w0 w) {l : Nat} {o : Obj} (hl : B ≤ l) : Below B w0 (w.putObj l o) :=
  ⟨h.os, h.tape, h.output, by rw [World.putObj_size]; exact h.size, fun b hb => (World.putObj_heap_other (by omega)).trans (h.block b hb)⟩

/-- a new block that is not the call's own turns -/
theorem Tr.alter {F F' : Foot} {M M' : Nat → Option MB} {w w' : World} {l : Nat} {o : Obj} (t : Tr F M w F' M' w') (hl : w.heap.size ≤ l) (hF : ∀ b, F b → b < w.heap.size) : Tr F M w F' M' (w'.putObj l o) :=
  ⟨t.foot, fun b hb => (World.putObj_heap_other (by have := hF b hb; omega)).trans (t.cell b hb), t.map, by rw [World.putObj_size]; exact t.size, t.fnew, t.mnew, fun b hb hn => (World.putObj_heap_other (by omega)).trans (t.rest b hb hn)⟩

/-- a turn of an alien block -/
theorem HR.putAlien {c : Ctx} {F : Foot} {M : Nat → Option MB} {hp : Nat → Option Blk} {nx : Nat} {w : World} (h : HR c F M hp nx w) {l : Nat} (hl : Alien c F M l) (hlt : l < w.heap.size) (o : Obj) (al : List (Nat × Obj))
    (hal : ∀ p ∈ al, (p = (l, o)) ∨ (p.1 ≠ l ∧ p ∈ c.al)) (hbl : ∀ b, c.base = some b → b.2.2.heap.size ≤ l) : HR (c.wa al) F M hp nx (w.putObj l o) := by
  refine h.other al (fun b hb => World.putObj_heap_other fun e => ?_) (by rw [World.putObj_size]; exact Nat.le_refl _) (putObj_below h.bel hl.1) (fun p hp => ?_) fun b hb => ⟨(h.base b hb).1.alter (hbl b hb) (h.base b hb).2, (h.base b hb).2⟩
  · subst e
    rcases hb with hb | ⟨k, m, h1, h2⟩
    · exact hl.2.1 hb
    · exact hl.2.2 k m h1 h2
  · rcases hal p hp with e | ⟨e, hp'⟩
    · subst e
      exact ⟨hl, World.putObj_heap_same hlt⟩
    · obtain ⟨h1, h2⟩ := h.al p hp'
      exact ⟨h1, (World.putObj_heap_other e).trans h2⟩
end Ab
