import Derived.Test.YtbcgkonhkoopnaaGreatXOp1
/-!
How the relation goes over a write, a new block, and a value that becomes data.
-/
namespace Ab
open Go Go.RowKit

def BlkOk (w : World) (F : Foot) (M : Nat → Option MB) (m : MB) : Blk → Prop
  | .box cs => (m.sz = 1 ∧ cs.length = m.cap) ∧ RepMC w F M m.b cs 0
  | .own et cs => (m.e = et ∧ m.sz = 1) ∧ (cs.length ≤ m.cap ∧ m.cap ≤ maxLen) ∧ RepMC w F M m.b cs 0
  | .res => False
  | .arr sz rows lv => (m.e, m.sz) = sz ∧ lv = true ∧ (rows.length ≤ m.cap ∧ m.cap ≤ maxLen) ∧ 0 < m.sz ∧ RepR w F m.b m.sz rows 0

theorem upd_same (k : Nat) (b : Option Blk) (h : Nat → Option Blk) : upd k b h k = b := by simp [upd]
theorem beq_ne {j k : Nat} (e : j ≠ k) : Nat.beq j k = false := by
  cases h : Nat.beq j k
  · rfl
  · exact absurd (Nat.eq_of_beq_eq_true h) e
theorem upd_ne {j k : Nat} (e : j ≠ k) (b : Option Blk) (h : Nat → Option Blk) : upd k b h j = h j := by simp [upd, beq_ne e]

section
variable {c : Ctx} {F : Foot} {M : Nat → Option MB} {hp : Nat → Option Blk} {nx : Nat} {w w' : World}

theorem HR.owned (h : HR c F M hp nx w) {k : Nat} {m : MB} (hk : hp k ≠ none) (hm : M k = some m) : c.w0.heap.size ≤ m.b ∧ Own w m := by
  cases hb : hp k with
  | none => exact absurd hb hk
  | some b =>
    cases b with
    | res => have := h.res k hb; rw [hm] at this; cases this
    | box cs =>
      obtain ⟨m', h1, h2, _, h4, _⟩ := h.box k cs hb
      rw [hm] at h1; cases h1
      exact ⟨h2, h4⟩
    | arr sz rows lv =>
      obtain ⟨m', h1, _, h2, _, _, h4, _⟩ := h.arr k sz rows lv hb
      rw [hm] at h1; cases h1
      exact ⟨h2, h4⟩
    | own et cs =>
      obtain ⟨m', h1, _, h2, _, h4, _⟩ := h.own k et cs hb
      rw [hm] at h1; cases h1
      exact ⟨h2, h4⟩

/-- a write to a block of the call's own -/
theorem HR.write (h : HR c F M hp nx w) {k : Nat} {m : MB} {blk : Blk} (hk : hp k ≠ none) (hm : M k = some m) (hnF : ¬ F m.b)
    (hoth : ∀ b, b ≠ m.b → w'.heap[b]? = w.heap[b]?) (hsz : w'.heap.size = w.heap.size) (hB : Below c.w0.heap.size c.w0 w') (hown : Own w' m)
    (hblk : Tr F M w F M w' → BlkOk w' F M m blk) : HR c F M (upd k (some blk) hp) nx w' ∧ Tr F M w F M w' := by
  have t : Tr F M w F M w' := ⟨fun _ h => h, fun b hb => hoth b (fun e => hnF (e ▸ hb)), fun _ _ h => h, by omega, fun _ h => .inl h, fun k m h => .inl ⟨k, m, h, rfl⟩, fun b _ hn => hoth b fun e => hn k m hm e.symm⟩
  have hbase := (h.owned hk hm).1
  have hblk := hblk t
  have ne : ∀ j mj, j ≠ k → hp j ≠ none → M j = some mj → mj.b ≠ m.b := fun j mj hj hpj hmj e => hj (h.inj j k mj m hpj hk hmj hm e)
  refine ⟨⟨fun j cs hj => ?_, fun j sz rows lv hj => ?_, fun j et cs hj => ?_, fun j j' mj mj' hj hj' h1 h2 e => ?_, fun j hj => ?_, fun b hb => by rw [hsz]; exact h.fl b hb, h.hist, fun g av hg => RepM.mono t.foot t.cell (fun _ _ h => h) _ _ (h.gl g av hg), hB, fun k m hk => by rw [hsz]; exact h.ml k m hk, h.al.tr t, h.base.tr t, fun j hj => (by
    by_cases e : j = k
    · subst e; rw [upd_same] at hj; cases hj; exact hblk.elim
    · rw [upd_ne e] at hj; exact h.res j hj)⟩, t⟩
  · by_cases e : j = k
    · subst e
      rw [upd_same] at hj; cases hj
      exact ⟨m, hm, hbase, hnF, hown, hblk.1, hblk.2⟩
    · rw [upd_ne e] at hj
      obtain ⟨mj, h1, h2, h3, h4, h5, h6⟩ := h.box j cs hj
      have := hoth mj.b (ne j mj e (by rw [hj]; simp) h1)
      exact ⟨mj, h1, h2, h3, h4.keep this, h5, RepMC.keep t this cs 0 h6⟩
  · by_cases e : j = k
    · subst e
      rw [upd_same] at hj; cases hj
      obtain ⟨h0, rfl, h2, h3, h4⟩ := hblk
      exact ⟨m, hm, h0, hbase, fun _ => hnF, fun h => (by cases h), hown, h2, h3, h4⟩
    · rw [upd_ne e] at hj
      obtain ⟨mj, h1, h0, h2, h3, h4, h5, h6, h7, h8⟩ := h.arr j sz rows lv hj
      have := hoth mj.b (ne j mj e (by rw [hj]; simp) h1)
      exact ⟨mj, h1, h0, h2, h3, h4, h5.keep this, h6, h7, RepR.keep t.foot t.cell this rows 0 h8⟩
  · by_cases e : j = k
    · subst e
      rw [upd_same] at hj; cases hj
      obtain ⟨h0, h2, h4⟩ := hblk
      exact ⟨m, hm, h0, hbase, hnF, hown, h2, h4⟩
    · rw [upd_ne e] at hj
      obtain ⟨mj, h1, h0, h2, h3, h4, h5, h6⟩ := h.own j et cs hj
      have := hoth mj.b (ne j mj e (by rw [hj]; simp) h1)
      exact ⟨mj, h1, h0, h2, h3, h4.keep this, h5, RepMC.keep t this cs 0 h6⟩
  · have hk' : ∀ j, upd k (some blk) hp j ≠ none → hp j ≠ none := fun j hj => by
      by_cases e : j = k
      · subst e; exact hk
      · rwa [upd_ne e] at hj
    exact h.inj j j' mj mj' (hk' j hj) (hk' j' hj') h1 h2 e
  · have := h.dom j hj
    refine ⟨this.1, ?_⟩
    by_cases e : j = k
    · subst e; rw [hm] at this; cases this.1
    · rw [upd_ne e]; exact this.2

/-- a new block at a key that was kept -/
theorem HR.fill (h : HR c F M hp nx w) {n : Nat} (hn : hp n = some .res) {m : MB} {blk : Blk}
    (hoth : ∀ b, b < w.heap.size → w'.heap[b]? = w.heap[b]?) (hsz : w.heap.size ≤ w'.heap.size) (hm : w.heap.size ≤ m.b)
    (hB : Below c.w0.heap.size c.w0 w') (hown : Own w' m)
    (hblk : Tr F M w F (fun j => if j = n then some m else M j) w' → BlkOk w' F (fun j => if j = n then some m else M j) m blk) :
    HR c F (fun j => if j = n then some m else M j) (upd n (some blk) hp) nx w' ∧ Tr F M w F (fun j => if j = n then some m else M j) w' := by
  have hMn : M n = none := h.res n hn
  have hlt : n < nx := by
    apply Nat.lt_of_not_le; intro hle
    have := (h.dom n hle).2
    rw [hn] at this; cases this
  have t : Tr F M w F (fun j => if j = n then some m else M j) w' := by
    refine ⟨fun _ h => h, fun b hb => hoth b (h.fl b hb), fun k mk hk => ?_, hsz, fun _ h => .inl h, fun k mk hk => ?_, fun b hb _ => hoth b hb⟩
    · have : k ≠ n := fun e => by subst e; rw [hMn] at hk; cases hk
      simp [this, hk]
    · by_cases e : k = n
      · simp [e] at hk
        subst hk
        exact .inr hm
      · simp [e] at hk
        exact .inl ⟨k, mk, hk, rfl⟩
  have hblk := hblk t
  have hnF : ¬ F m.b := fun hf => by have := h.fl _ hf; omega
  have hbase : c.w0.heap.size ≤ m.b := Nat.le_trans h.bel.size hm
  have hne : ∀ j b mj, hp j = some b → M j = some mj → mj.b ≠ m.b ∧ w'.heap[mj.b]? = w.heap[mj.b]? := fun j b mj hj hmj => by
    have ho := (h.owned (by rw [hj]; simp) hmj).2.lt
    exact ⟨fun e => by omega, hoth mj.b ho⟩
  refine ⟨⟨fun j cs hj => ?_, fun j sz rows lv hj => ?_, fun j et cs hj => ?_, fun j j' mj mj' hj hj' h1 h2 e => ?_, fun j hj => ?_, fun b hb => Nat.lt_of_lt_of_le (h.fl b hb) hsz, h.hist, fun g av hg => RepM.mono t.foot t.cell (fun _ _ h => h) _ _ (h.gl g av hg), hB, fun k mk hk => ?_, h.al.tr t, h.base.tr t, fun j hj => ?_⟩, t⟩
  · by_cases e : j = n
    · subst e
      rw [upd_same] at hj; cases hj
      exact ⟨m, by simp, hbase, hnF, hown, hblk.1, hblk.2⟩
    · rw [upd_ne e] at hj
      obtain ⟨mj, h3, h4, h5, h6, h7, h8⟩ := h.box j cs hj
      have := (hne j _ mj hj h3).2
      exact ⟨mj, by simp [e, h3], h4, h5, h6.keep this, h7, RepMC.keep t this cs 0 h8⟩
  · by_cases e : j = n
    · subst e
      rw [upd_same] at hj; cases hj
      obtain ⟨h0, rfl, h2, h3, h4⟩ := hblk
      exact ⟨m, by simp, h0, hbase, fun _ => hnF, fun h => (by cases h), hown, h2, h3, h4⟩
    · rw [upd_ne e] at hj
      obtain ⟨mj, h3, h0, h4, h5, h5', h6, h7, h7', h8⟩ := h.arr j sz rows lv hj
      have := (hne j _ mj hj h3).2
      exact ⟨mj, by simp [e, h3], h0, h4, h5, h5', h6.keep this, h7, h7', RepR.keep t.foot t.cell this rows 0 h8⟩
  · by_cases e : j = n
    · subst e
      rw [upd_same] at hj; cases hj
      obtain ⟨h0, h2, h4⟩ := hblk
      exact ⟨m, by simp, h0, hbase, hnF, hown, h2, h4⟩
    · rw [upd_ne e] at hj
      obtain ⟨mj, h3, h0, h4, h5, h6, h7, h8⟩ := h.own j et cs hj
      have := (hne j _ mj hj h3).2
      exact ⟨mj, by simp [e, h3], h0, h4, h5, h6.keep this, h7, RepMC.keep t this cs 0 h8⟩
  · by_cases ej : j = n
    · by_cases ej' : j' = n
      · rw [ej, ej']
      · simp [ej] at h1
        simp [ej'] at h2
        subst h1
        rw [upd_ne ej'] at hj'
        cases hb : hp j' with
        | none => exact absurd hb hj'
        | some b => exact absurd e.symm (hne j' b mj' hb h2).1
    · by_cases ej' : j' = n
      · simp [ej'] at h2
        simp [ej] at h1
        subst h2
        rw [upd_ne ej] at hj
        cases hb : hp j with
        | none => exact absurd hb hj
        | some b => exact absurd e (hne j b mj hb h1).1
      · simp [ej] at h1
        simp [ej'] at h2
        rw [upd_ne ej] at hj
        rw [upd_ne ej'] at hj'
        exact h.inj j j' mj mj' hj hj' h1 h2 e
  · have e : j ≠ n := by omega
    rw [upd_ne e]
    simp only [e, if_false]
    exact h.dom j hj
  · by_cases e : k = n
    · simp [e] at hk
      subst hk
      exact hown.lt
    · simp [e] at hk
      exact Nat.lt_of_lt_of_le (h.ml k mk hk) hsz
  · by_cases e : j = n
    · subst e; rw [upd_same] at hj; cases hj; exact hblk.elim
    · rw [upd_ne e] at hj; simp only [e, if_false]; exact h.res j hj

/-- keys are kept -/
theorem HR.keep1 (h : HR c F M hp nx w) : HR c F M (upd nx (some .res) hp) (Nat.succ nx) w := by
  have ne : ∀ j b, upd nx (some .res) hp j = some b → b ≠ .res → hp j = some b := fun j b hj hb => by
    by_cases e : j = nx
    · subst e; rw [upd_same] at hj; cases hj; exact absurd rfl hb
    · rwa [upd_ne e] at hj
  refine ⟨fun k cs hk => h.box k cs (ne k _ hk (by simp)), fun k sz rows lv hk => h.arr k sz rows lv (ne k _ hk (by simp)), fun k et cs hk => h.own k et cs (ne k _ hk (by simp)), fun k k' m m' hk hk' hm hm' e => ?_, fun k hk => ?_, h.fl, h.hist, h.gl, h.bel, h.ml, h.al, h.base, fun k hk => ?_⟩
  · have nn : ∀ j mj, M j = some mj → j ≠ nx := fun j mj hj e => by subst e; rw [(h.dom j (Nat.le_refl _)).1] at hj; cases hj
    rw [upd_ne (nn k m hm)] at hk
    rw [upd_ne (nn k' m' hm')] at hk'
    exact h.inj k k' m m' hk hk' hm hm' e
  · have hk : nx + 1 ≤ k := hk
    have e : k ≠ nx := by omega
    rw [upd_ne e]
    exact h.dom k (by omega)
  · by_cases e : k = nx
    · subst e; exact (h.dom k (Nat.le_refl _)).1
    · rw [upd_ne e] at hk; exact h.res k hk

/-- the old key, if there is one, is given up -/
def drop1 (old : Option Nat) (hp : Nat → Option Blk) : Nat → Option Blk :=
  match old with
  | none => hp
  | some k => upd k none hp

theorem drop1_some {old : Option Nat} {j : Nat} {b : Blk} (h : drop1 old hp j = some b) : hp j = some b ∧ old ≠ some j := by
  cases old with
  | none => exact ⟨h, by simp⟩
  | some k =>
    by_cases e : j = k
    · subst e; simp [drop1, upd_same] at h
    · simp [drop1, upd_ne e] at h
      exact ⟨h, fun h => e (by cases h; rfl)⟩

/-- a new block, or one that has grown -/
theorem HR.grow (h : HR c F M hp nx w) (old : Option Nat) {m : MB} {blk : Blk}
    (hoth : ∀ b, b < w.heap.size → (∀ k mk, old = some k → M k = some mk → b ≠ mk.b) → w'.heap[b]? = w.heap[b]?) (hsz : w.heap.size ≤ w'.heap.size)
    (hold : ∀ k, old = some k → hp k ≠ none ∧ ∀ mk, M k = some mk → ¬ F mk.b)
    (hm : w.heap.size ≤ m.b ∨ ∃ k mk, old = some k ∧ M k = some mk ∧ m.b = mk.b)
    (hB : Below c.w0.heap.size c.w0 w') (hown : Own w' m)
    (hblk : Tr F M w F (fun j => if j = nx then some m else M j) w' → BlkOk w' F (fun j => if j = nx then some m else M j) m blk) :
    HR c F (fun j => if j = nx then some m else M j) (upd nx (some blk) (drop1 old hp)) (nx + 1) w' ∧ Tr F M w F (fun j => if j = nx then some m else M j) w' := by
  have hOF : ∀ k mk, old = some k → M k = some mk → ¬ F mk.b := fun k mk hk hmk => (hold k hk).2 mk hmk
  have t : Tr F M w F (fun j => if j = nx then some m else M j) w' := by
    refine ⟨fun _ h => h, fun b hb => hoth b (h.fl b hb) fun k mk hk hmk e => hOF k mk hk hmk (e ▸ hb), fun k mk hk => ?_, hsz, fun _ h => .inl h, fun k mk hk => ?_, fun b hb hn => hoth b hb fun k mk _ hmk e => hn k mk hmk e.symm⟩
    rotate_left
    · by_cases e : k = nx
      · simp [e] at hk
        subst hk
        rcases hm with h1 | ⟨k, mk, h1, h2, h3⟩
        · exact .inr h1
        · exact .inl ⟨k, mk, h2, h3.symm⟩
      · simp [e] at hk
        exact .inl ⟨k, mk, hk, rfl⟩
    have : k ≠ nx := fun e => by have := (h.dom k (by omega)).1; rw [hk] at this; cases this
    simp [this, hk]
  have hblk := hblk t
  have hnF : ¬ F m.b := fun hf => by
    rcases hm with h1 | ⟨k, mk, h1, h2, h3⟩
    · have := h.fl _ hf; omega
    · exact hOF k mk h1 h2 (h3 ▸ hf)
  have hbase : c.w0.heap.size ≤ m.b := by
    rcases hm with h1 | ⟨k, mk, h1, h2, h3⟩
    · exact Nat.le_trans h.bel.size h1
    · rw [h3]; exact (h.owned (hold k h1).1 h2).1
  have hne : ∀ j b mj, drop1 old hp j = some b → M j = some mj → mj.b ≠ m.b ∧ w'.heap[mj.b]? = w.heap[mj.b]? := fun j b mj hj hmj => by
    obtain ⟨h1, h2⟩ := drop1_some hj
    have ho := (h.owned (by rw [h1]; simp) hmj).2.lt
    have hk : ∀ k mk, old = some k → M k = some mk → mj.b ≠ mk.b := fun k mk hk hmk e => by
      have := h.inj j k mj mk (by rw [h1]; simp) (hold k hk).1 hmj hmk e
      subst this; exact h2 hk
    refine ⟨fun e => ?_, hoth mj.b ho hk⟩
    rcases hm with h3 | ⟨k, mk, h3, h4, h5⟩
    · omega
    · exact hk k mk h3 h4 (e.trans h5)
  have hnx : ∀ j b, drop1 old hp j = some b → j ≠ nx := fun j b hj e => by
    have := (h.dom j (by omega)).2
    rw [(drop1_some hj).1] at this; cases this
  refine ⟨⟨fun j cs hj => ?_, fun j sz rows lv hj => ?_, fun j et cs hj => ?_, fun j j' mj mj' hj hj' h1 h2 e => ?_, fun j hj => ?_, fun b hb => Nat.lt_of_lt_of_le (h.fl b hb) hsz, h.hist, fun g av hg => RepM.mono t.foot t.cell (fun _ _ h => h) _ _ (h.gl g av hg), hB, fun k mk hk => ?_, h.al.tr t, h.base.tr t, fun j hj => (by
    by_cases e : j = nx
    · subst e; rw [upd_same] at hj; cases hj; exact hblk.elim
    · rw [upd_ne e] at hj; simp only [e, if_false]; exact h.res j (drop1_some hj).1)⟩, t⟩
  rotate_right
  · by_cases e : k = nx
    · simp [e] at hk
      subst hk
      exact hown.lt
    · simp [e] at hk
      exact Nat.lt_of_lt_of_le (h.ml k mk hk) hsz
  · by_cases e : j = nx
    · subst e
      rw [upd_same] at hj; cases hj
      exact ⟨m, by simp, hbase, hnF, hown, hblk.1, hblk.2⟩
    · rw [upd_ne e] at hj
      obtain ⟨h1, h2⟩ := drop1_some hj
      obtain ⟨mj, h3, h4, h5, h6, h7, h8⟩ := h.box j cs h1
      have := (hne j _ mj hj h3).2
      exact ⟨mj, by simp [e, h3], h4, h5, h6.keep this, h7, RepMC.keep t this cs 0 h8⟩
  · by_cases e : j = nx
    · subst e
      rw [upd_same] at hj; cases hj
      obtain ⟨h0, rfl, h2, h3, h4⟩ := hblk
      exact ⟨m, by simp, h0, hbase, fun _ => hnF, fun h => (by cases h), hown, h2, h3, h4⟩
    · rw [upd_ne e] at hj
      obtain ⟨h1, h2⟩ := drop1_some hj
      obtain ⟨mj, h3, h0, h4, h5, h5', h6, h7, h7', h8⟩ := h.arr j sz rows lv h1
      have := (hne j _ mj hj h3).2
      exact ⟨mj, by simp [e, h3], h0, h4, h5, h5', h6.keep this, h7, h7', RepR.keep t.foot t.cell this rows 0 h8⟩
  · by_cases e : j = nx
    · subst e
      rw [upd_same] at hj; cases hj
      obtain ⟨h0, h2, h4⟩ := hblk
      exact ⟨m, by simp, h0, hbase, hnF, hown, h2, h4⟩
    · rw [upd_ne e] at hj
      obtain ⟨h1, h2⟩ := drop1_some hj
      obtain ⟨mj, h3, h0, h4, h5, h6, h7, h8⟩ := h.own j et cs h1
      have := (hne j _ mj hj h3).2
      exact ⟨mj, by simp [e, h3], h0, h4, h5, h6.keep this, h7, RepMC.keep t this cs 0 h8⟩
  · by_cases ej : j = nx
    · by_cases ej' : j' = nx
      · rw [ej, ej']
      · simp [ej] at h1
        simp [ej'] at h2
        subst h1
        rw [upd_ne ej'] at hj'
        cases hb : drop1 old hp j' with
        | none => exact absurd hb hj'
        | some b => exact absurd e.symm (hne j' b mj' hb h2).1
    · by_cases ej' : j' = nx
      · simp [ej'] at h2
        simp [ej] at h1
        subst h2
        rw [upd_ne ej] at hj
        cases hb : drop1 old hp j with
        | none => exact absurd hb hj
        | some b => exact absurd e (hne j b mj hb h1).1
      · simp [ej] at h1
        simp [ej'] at h2
        rw [upd_ne ej] at hj
        rw [upd_ne ej'] at hj'
        cases hb : drop1 old hp j with
        | none => exact absurd hb hj
        | some b =>
          cases hb' : drop1 old hp j' with
          | none => exact absurd hb' hj'
          | some b' => exact h.inj j j' mj mj' (by rw [(drop1_some hb).1]; simp) (by rw [(drop1_some hb').1]; simp) h1 h2 e
  · have := h.dom j (by omega)
    have e : j ≠ nx := by omega
    refine ⟨by simp [e, this.1], ?_⟩
    rw [upd_ne e]
    cases hb : drop1 old hp j with
    | none => rfl
    | some b => rw [(drop1_some hb).1] at this; cases this.2

/-- the blocks of arrays that are handed on -/
def frzF (ks : List Nat) (hp : Nat → Option Blk) (M : Nat → Option MB) (F : Foot) : Foot := fun b =>
  F b ∨ ∃ k m sz rows lv, k ∈ ks ∧ hp k = some (.arr sz rows lv) ∧ M k = some m ∧ m.b = b

theorem memN_iff (j : Nat) : ∀ (ks : List Nat), memN j ks = true ↔ j ∈ ks
  | [] => by simp [memN]
  | k :: ks => by
      simp only [memN, Bool.or_eq_true, memN_iff j ks, List.mem_cons]
      constructor
      · rintro (h | h)
        · exact .inl (Nat.eq_of_beq_eq_true h)
        · exact .inr h
      · rintro (h | h)
        · exact .inl (by rw [h]; simp)
        · exact .inr h

theorem frz_at (ks : List Nat) (hp : Nat → Option Blk) (j : Nat) : frz ks hp j = if j ∈ ks then frzB (hp j) else hp j := by
  cases ks with
  | nil => simp [frz]
  | cons k ks =>
    simp only [frz]
    by_cases h : j ∈ k :: ks
    · rw [(memN_iff j _).2 h]; simp [h]
    · have : memN j (k :: ks) = false := by
        cases hm : memN j (k :: ks)
        · rfl
        · exact absurd ((memN_iff j _).1 hm) h
      rw [this]; simp [h]

theorem frzB_none {b : Option Blk} (h : frzB b ≠ none) : b ≠ none := by
  cases b with
  | none => exact h
  | some b => simp

theorem HR.freeze (h : HR c F M hp nx w) (ks : List Nat) : HR c (frzF ks hp M F) M (frz ks hp) nx w ∧ Tr F M w (frzF ks hp M F) M w := by
  have t : Tr F M w (frzF ks hp M F) M w := ⟨fun b hb => .inl hb, fun _ _ => rfl, fun _ _ h => h, Nat.le_refl _, fun b hb => by
    rcases hb with hb | ⟨k, m, sz, rows, lv, _, _, h1, h2⟩
    · exact .inl hb
    · exact .inr (.inl ⟨k, m, h1, h2⟩), fun k m h => .inl ⟨k, m, h, rfl⟩, fun _ _ _ => rfl⟩
  have un : ∀ j, frz ks hp j ≠ none → hp j ≠ none := fun j hj => by
    rw [frz_at] at hj
    split at hj
    · exact frzB_none hj
    · exact hj
  refine ⟨⟨fun j cs hj => ?_, fun j sz rows lv hj => ?_, fun j et cs hj => ?_, fun j j' mj mj' hj hj' h1 h2 e => h.inj j j' mj mj' (un j hj) (un j' hj') h1 h2 e, fun j hj => ⟨(h.dom j hj).1, ?_⟩, fun b hb => ?_, fun b hb => ?_, fun g av hg => RepM.mono t.foot t.cell (fun _ _ h => h) _ _ (h.gl g av hg), h.bel, h.ml, h.al.tr t, h.base.tr t, fun j hj => (by
    rw [frz_at] at hj
    split at hj
    · cases hb : hp j with
      | none => rw [hb] at hj; cases hj
      | some b => rw [hb] at hj; cases b <;> first | (cases hj; done) | exact h.res j hb
    · exact h.res j hj)⟩, t⟩
  · have hj' : hp j = some (.box cs) := by
      rw [frz_at] at hj
      split at hj
      · unfold frzB at hj; split at hj <;> simp_all
      · exact hj
    obtain ⟨m, h1, h2, h3, h4, h5, h6⟩ := h.box j cs hj'
    refine ⟨m, h1, h2, fun hf => ?_, h4, h5, RepMC.keep t rfl cs 0 h6⟩
    rcases hf with hf | ⟨k, mk, sz, rows, lv, _, hk, hmk, e⟩
    · exact h3 hf
    · have := h.inj k j mk m (by rw [hk]; simp) (by rw [hj']; simp) hmk h1 e
      subst this
      rw [hk] at hj'; cases hj'
  · by_cases hm : j ∈ ks
    · rw [frz_at, if_pos hm] at hj
      cases hb : hp j with
      | none => rw [hb] at hj; simp [frzB] at hj
      | some b =>
        cases b with
        | box cs => rw [hb] at hj; simp [frzB] at hj
        | own et cs => rw [hb] at hj; simp [frzB] at hj
        | res => rw [hb] at hj; simp [frzB] at hj
        | arr sz' rows' lv' =>
          rw [hb] at hj; simp [frzB] at hj
          obtain ⟨rfl, rfl, rfl⟩ := hj
          obtain ⟨m, h1, h0, h2, h3, h4, h5, h6, h7, h8⟩ := h.arr j _ rows' lv' hb
          exact ⟨m, h1, h0, h2, fun h => (by cases h), fun _ => .inr ⟨j, m, _, rows', lv', hm, hb, h1, rfl⟩, h5, h6, h7, RepR.keep t.foot t.cell rfl rows' 0 h8⟩
    · rw [frz_at, if_neg hm] at hj
      obtain ⟨m, h1, h0, h2, h3, h4, h5, h6, h7, h8⟩ := h.arr j sz rows lv hj
      refine ⟨m, h1, h0, h2, fun hlv hf => ?_, fun hlv => .inl (h4 hlv), h5, h6, h7, RepR.keep t.foot t.cell rfl rows 0 h8⟩
      rcases hf with hf | ⟨k, mk, sz', rows', lv', hk', hk, hmk, e⟩
      · exact h3 hlv hf
      · have := h.inj k j mk m (by rw [hk]; simp) (by rw [hj]; simp) hmk h1 e
        subst this
        exact hm hk'
  · have hj' : hp j = some (.own et cs) := by
      rw [frz_at] at hj
      split at hj
      · unfold frzB at hj; split at hj <;> simp_all
      · exact hj
    obtain ⟨m, h1, h0, h2, h3, h4, h5, h6⟩ := h.own j et cs hj'
    refine ⟨m, h1, h0, h2, fun hf => ?_, h4, h5, RepMC.keep t rfl cs 0 h6⟩
    rcases hf with hf | ⟨k, mk, sz, rows, lv, _, hk, hmk, e⟩
    · exact h3 hf
    · have := h.inj k j mk m (by rw [hk]; simp) (by rw [hj']; simp) hmk h1 e
      subst this
      rw [hk] at hj'; cases hj'
  · rw [frz_at, (h.dom j hj).2]; simp [frzB]
  · rcases hb with hb | ⟨k, mk, sz', rows', lv', hk', hk, hmk, e⟩
    · exact h.fl b hb
    · rw [← e]; exact (h.owned (by rw [hk]; simp) hmk).2.lt
  · rcases hb with hb | ⟨k, mk, sz', rows', lv', hk', hk, hmk, e⟩
    · exact h.hist b hb
    · right; rw [← e]; exact (h.owned (by rw [hk]; simp) hmk).1

theorem RepR.sub {b sz : Nat} : ∀ (l : List (List AV)) (o n k : Nat), RepR w F b sz l o → RepR w F b sz ((l.drop n).take k) (o + n * sz)
  | [], o, n, k, _ => by simp [RepR]
  | r :: rs, o, 0, 0, _ => by simp [RepR]
  | r :: rs, o, 0, k + 1, h => by
      unfold RepR at h
      simp only [List.drop_zero, List.take_succ_cons, Nat.zero_mul, Nat.add_zero]
      unfold RepR
      have := RepR.sub rs (o + sz) 0 k h.2.2
      simp only [List.drop_zero, Nat.zero_mul, Nat.add_zero] at this
      exact ⟨h.1, h.2.1, this⟩
  | r :: rs, o, n + 1, k, h => by
      unfold RepR at h
      have := RepR.sub rs (o + sz) n k h.2.2
      rw [List.drop_succ_cons, show o + (n + 1) * sz = o + sz + n * sz by rw [Nat.add_mul]; omega]
      exact this

/-- a value that becomes data -/
theorem toD_sound (h : HR c F M hp nx w) {av : AV} {v : Value} (hv : RepM w F M av v) {K : AV → Prop} (hK : toD hp av K) :
    ∃ d, RepD w (frzF (keys av) hp M F) d v ∧ one d = true ∧ K d := by
  cases av with
  | int k n => exact ⟨.int k n, by unfold RepM at hv; unfold RepD; exact hv, rfl, hK⟩
  | bool b => exact ⟨.bool b, by unfold RepM at hv; unfold RepD; exact hv, rfl, hK⟩
  | str b => exact ⟨.str b, by unfold RepM at hv; unfold RepD; exact hv, rfl, hK⟩
  | sl rows => exact ⟨_, RepD.mono (fun b hb => .inl hb) (fun _ _ => rfl) _ _ hv, rfl, hK⟩
  | nil =>
    refine ⟨.sl [], ?_, rfl, hK⟩
    unfold RepM at hv
    unfold RepD
    exact ⟨none, 0, by simpa using hv, Nat.le_refl _, by simp, .inl rfl⟩
  | ms k off n =>
    simp only [toD] at hK
    cases hb : hp k with
    | none => rw [hb] at hK; exact hK.elim
    | some b =>
      cases b with
      | res => first | exact hK.elim | (rw [hb] at hK; exact hK.elim) | exact h.elim | (rw [hb] at h; exact h.elim) | (rw [hb] at hK2; exact hK2.elim) | (rw [hb] at hK; simp only at hK; exact hK.elim) | exact Sel.no | exact Gives.none | exact Give2.none | exact toDB_ok hp (.ms k off len) | (have := Sel.toD (hp := hp) (.ms k off len); exact this) | exact .inl rfl | (cases hK; done) | (cases h; done)
      | box cs => rw [hb] at hK; exact hK.elim
      | own et cs => rw [hb] at hK; exact hK.elim
      | arr sz rows lv =>
        rw [hb] at hK
        simp only at hK
        obtain ⟨hl, hK⟩ := hK
        refine ⟨_, ?_, rfl, hK⟩
        obtain ⟨m, h1, h0, h2, h3, h4, h5, h6, h7, h8⟩ := h.arr k sz rows lv hb
        unfold RepM at hv
        obtain ⟨m', hm', hv⟩ := hv
        rw [h1] at hm'; cases hm'
        have hlen : ((rows.drop off).take n).length = n := by simp; omega
        have hF' : frzF (keys (.ms k off n)) hp M F m.b := .inr ⟨k, m, sz, rows, lv, by simp [keys], hb, h1, rfl⟩
        unfold RepD
        rw [hlen]
        rcases hv with ⟨hv, hc⟩ | ⟨rfl, _, p, cp, hv, hcp⟩
        · refine ⟨_, _, hv, by omega, by omega, .inr ⟨m.b, off * m.sz, m.sz, rfl, hF', ?_⟩⟩
          have := RepR.sub rows 0 off n h8
          rw [Nat.zero_add] at this
          exact RepR.keep (fun b hb => .inl hb) (fun _ _ => rfl) rfl _ _ this
        · exact ⟨p, cp, hv, Nat.zero_le _, hcp, .inl (by simp)⟩
  | _ => exact hK.elim

theorem frzF_mono {ks ks' : List Nat} (h : ∀ k ∈ ks, k ∈ ks') {b : Nat} (hb : frzF ks hp M F b) : frzF ks' hp M F b := by
  rcases hb with hb | ⟨k, m, sz, rows, lv, h1, h2⟩
  · exact .inl hb
  · exact .inr ⟨k, m, sz, rows, lv, h k h1, h2⟩

theorem toDs_sound (h : HR c F M hp nx w) : ∀ (l : List AV) (vs : List Value), RepML w F M l vs → ∀ {K : List AV → Prop}, toDs hp l K →
    ∃ ds, RepDL w (frzF (keysL l) hp M F) ds vs ∧ (∀ d ∈ ds, one d = true) ∧ K ds
  | [], vs, hv, K, hK => ⟨[], by unfold RepML at hv; unfold RepDL; exact hv, by simp, hK⟩
  | a :: l, vs, hv, K, hK => by
      unfold RepML at hv
      obtain ⟨v, vs', rfl, h1, h2⟩ := hv
      unfold toDs at hK
      obtain ⟨d, h3, h4, hK⟩ := toD_sound h h1 hK
      obtain ⟨ds, h5, h6, hK⟩ := toDs_sound h l vs' h2 hK
      refine ⟨d :: ds, ?_, ?_, hK⟩
      · unfold RepDL
        refine ⟨v, vs', rfl, RepD.mono (fun b hb => frzF_mono (fun k hk => ?_) hb) (fun _ _ => rfl) _ _ h3, RepDL.mono (fun b hb => frzF_mono (fun k hk => ?_) hb) (fun _ _ => rfl) _ _ h5⟩
        · simp [keysL, hk]
        · simp [keysL, hk]
      · intro x hx
        rcases List.mem_cons.1 hx with rfl | hx
        · exact h4
        · exact h6 x hx

theorem toDA_sound (h : HR c F M hp nx w) {av : AV} {v : Value} (hv : RepM w F M av v) {K : AV → Prop} (hK : toDA hp av K) :
    ∃ d, RepD w (frzF (keysA av) hp M F) d v ∧ K d := by
  cases av with
  | agg cs =>
    unfold RepM at hv
    obtain ⟨vs, rfl, h2⟩ := hv
    obtain ⟨ds, h3, _, h4⟩ := toDs_sound h cs vs h2 hK
    exact ⟨.agg ds, by unfold RepD; exact ⟨vs, rfl, h3⟩, h4⟩
  | tup cs => exact hK.elim
  | _ =>
    obtain ⟨d, h1, _, h2⟩ := toD_sound h hv hK
    exact ⟨d, h1, h2⟩

theorem toDAs_sound (h : HR c F M hp nx w) : ∀ (l : List AV) (vs : List Value), RepML w F M l vs → ∀ {K : List AV → Prop}, toDAs hp l K →
    ∃ ds, RepDL w (frzF (keysAs l) hp M F) ds vs ∧ K ds
  | [], vs, hv, K, hK => ⟨[], by unfold RepML at hv; unfold RepDL; exact hv, hK⟩
  | a :: l, vs, hv, K, hK => by
      unfold RepML at hv
      obtain ⟨v, vs', rfl, h1, h2⟩ := hv
      unfold toDAs at hK
      obtain ⟨d, h3, hK⟩ := toDA_sound h h1 hK
      obtain ⟨ds, h5, hK⟩ := toDAs_sound h l vs' h2 hK
      refine ⟨d :: ds, ?_, hK⟩
      unfold RepDL
      refine ⟨v, vs', rfl, RepD.mono (fun b hb => frzF_mono (fun k hk => ?_) hb) (fun _ _ => rfl) _ _ h3, RepDL.mono (fun b hb => frzF_mono (fun k hk => ?_) hb) (fun _ _ => rfl) _ _ h5⟩
      · simp [keysAs, hk]
      · simp [keysAs, hk]

theorem toDR_sound (h : HR c F M hp nx w) {av : AV} {v : Value} (hv : RepM w F M av v) {K : AV → Prop} (hK : toDR hp av K) :
    ∃ d, RepD w (frzF (keysR av) hp M F) d v ∧ K d := by
  cases av with
  | tup cs =>
    unfold RepM at hv
    obtain ⟨vs, rfl, h2⟩ := hv
    obtain ⟨ds, h3, h4⟩ := toDAs_sound h cs vs h2 hK
    exact ⟨.tup ds, by unfold RepD; exact ⟨vs, rfl, h3⟩, h4⟩
  | _ => exact toDA_sound h hv hK
end
end Ab
