import Derived.Test.YtbcgkonhkoopnaaGreatXSound3
/-!
What a call has made for itself is given up.
-/
namespace Ab
open Go Go.RowKit

mutual
/-- it names keys below n alone -/
def bl (n : Nat) : AV → Bool
  | .bp k _ => Nat.blt k n
  | .ap k _ _ => Nat.blt k n
  | .ms k _ _ => Nat.blt k n
  | .fn _ cap => bls n cap
  | .agg cs => bls n cs
  | .tup cs => bls n cs
  | _ => true
def bls (n : Nat) : List AV → Bool
  | [] => true
  | v :: vs => and (bl n v) (bls n vs)
end
def blB (n : Nat) : Option Blk → Bool
  | some (.box cs) => bls n cs
  | some (.own _ cs) => bls n cs
  | _ => true
/-- the blocks below k name keys below n alone -/
def clean (n : Nat) (hp : Nat → Option Blk) : Nat → Prop
  | 0 => True
  | k + 1 => blB n (hp k) = true ∧ clean n hp k
theorem clean_at {n : Nat} {hp : Nat → Option Blk} : ∀ {m : Nat}, clean n hp m → ∀ k, k < m → blB n (hp k) = true
  | 0, _, k, h => by omega
  | m + 1, h, k, hk => by
      by_cases e : k = m
      · subst e; exact h.1
      · exact clean_at h.2 k (by omega)
def cutH (n : Nat) (hp : Nat → Option Blk) : Nat → Option Blk := fun k => bif Nat.blt k n then hp k else none
def cutM (n : Nat) (M : Nat → Option MB) : Nat → Option MB := fun k => bif Nat.blt k n then M k else none
theorem blt_iff {k n : Nat} : Nat.blt k n = true ↔ k < n := by
  unfold Nat.blt; constructor
  · intro h; exact Nat.le_of_ble_eq_true h
  · intro h; exact Nat.ble_eq_true_of_le h
theorem cutM_some {n : Nat} {M : Nat → Option MB} {k : Nat} {m : MB} (h : cutM n M k = some m) : M k = some m ∧ k < n := by
  unfold cutM at h
  cases hb : Nat.blt k n with
  | true => rw [hb] at h; exact ⟨h, blt_iff.1 hb⟩
  | false => rw [hb] at h; cases h
theorem cutM_lt {n : Nat} {M : Nat → Option MB} {k : Nat} (h : k < n) : cutM n M k = M k := by unfold cutM; rw [blt_iff.2 h]; rfl
theorem cutH_some {n : Nat} {hp : Nat → Option Blk} {k : Nat} {b : Blk} (h : cutH n hp k = some b) : hp k = some b ∧ k < n := by
  unfold cutH at h
  cases hb : Nat.blt k n with
  | true => rw [hb] at h; exact ⟨h, blt_iff.1 hb⟩
  | false => rw [hb] at h; cases h

section
variable {w : World} {F : Foot} {M : Nat → Option MB} {n : Nat}
mutual
theorem RepM.cut : ∀ (a : AV) (v : Value), bl n a = true → RepM w F M a v → RepM w F (cutM n M) a v
  | .int _ _, _, _, h => h
  | .bool _, _, _, h => h
  | .str _, _, _, h => h
  | .nil, _, _, h => h
  | .undef, _, _, h => h
  | .yl _, _, _, h => h
  | .sl rows, v, _, h => h
  | .bp k o, v, hb, h => by
      unfold RepM at h ⊢
      unfold bl at hb
      obtain ⟨m, h1, h2⟩ := h
      exact ⟨m, by rw [cutM_lt (blt_iff.1 hb)]; exact h1, h2⟩
  | .ap k r o, v, hb, h => by
      unfold RepM at h ⊢
      unfold bl at hb
      obtain ⟨m, h1, h2⟩ := h
      exact ⟨m, by rw [cutM_lt (blt_iff.1 hb)]; exact h1, h2⟩
  | .ms k off l, v, hb, h => by
      unfold RepM at h ⊢
      unfold bl at hb
      obtain ⟨m, h1, h2⟩ := h
      exact ⟨m, by rw [cutM_lt (blt_iff.1 hb)]; exact h1, h2⟩
  | .er row o, v, _, h => by unfold RepM at h ⊢; exact h
  | .agg cs, v, hb, h => by
      unfold RepM at h ⊢
      unfold bl at hb
      obtain ⟨vs, h1, h2⟩ := h
      exact ⟨vs, h1, RepML.cut cs vs hb h2⟩
  | .tup cs, v, hb, h => by
      unfold RepM at h ⊢
      unfold bl at hb
      obtain ⟨vs, h1, h2⟩ := h
      exact ⟨vs, h1, RepML.cut cs vs hb h2⟩
  | .fn f cs, v, hb, h => by
      unfold RepM at h ⊢
      unfold bl at hb
      obtain ⟨vs, h1, h2⟩ := h
      exact ⟨vs, h1, RepML.cut cs vs hb h2⟩
theorem RepML.cut : ∀ (l : List AV) (vs : List Value), bls n l = true → RepML w F M l vs → RepML w F (cutM n M) l vs
  | [], vs, _, h => by unfold RepML at h ⊢; exact h
  | c :: cs, vs, hb, h => by
      unfold RepML at h ⊢
      unfold bls at hb
      simp only [Bool.and_eq_true] at hb
      obtain ⟨v, vs', h1, h2, h3⟩ := h
      exact ⟨v, vs', h1, RepM.cut c v hb.1 h2, RepML.cut cs vs' hb.2 h3⟩
end
theorem RepMC.cut {b : Nat} : ∀ (l : List AV) (o : Nat), bls n l = true → RepMC w F M b l o → RepMC w F (cutM n M) b l o
  | [], _, _, _ => trivial
  | c :: cs, o, hb, h => by
      unfold bls at hb
      simp only [Bool.and_eq_true] at hb
      unfold RepMC at h ⊢
      obtain ⟨⟨h0, v, h1, h2⟩, h3⟩ := h
      exact ⟨⟨h0, v, h1, RepM.cut c v hb.1 h2⟩, RepMC.cut cs (o + 1) hb.2 h3⟩

variable {c : Ctx} {F0 : Foot} {M0 : Nat → Option MB} {w0 : World} {hp : Nat → Option Blk} {nx : Nat}

theorem Tr.cut (t : Tr F0 M0 w0 F M w) (h : ∀ k, n ≤ k → M0 k = none) : Tr F0 M0 w0 F (cutM n M) w :=
  ⟨t.foot, t.cell, fun k m hk => (by
    by_cases e : k < n
    · rw [cutM_lt e]; exact t.map k m hk
    · rw [h k (by omega)] at hk; cases hk), t.size, t.fnew, fun k m hk => t.mnew k m (cutM_some hk).1, t.rest⟩

theorem HR.cut (h : HR c F M hp nx w) (hc : clean n hp n) (hb : BaseOk c F (cutM n M) w) : HR c F (cutM n M) (cutH n hp) n w := by
  have hcl := clean_at hc
  refine ⟨fun k cs hk => ?_, fun k sz rows lv hk => ?_, fun k et cs hk => ?_, fun k k' m m' hk hk' hm hm' e => ?_, fun k hk => ⟨?_, ?_⟩, h.fl, h.hist, h.gl, h.bel, fun k m hk => h.ml k m (cutM_some hk).1, fun p hp => ⟨⟨(h.al p hp).1.1, (h.al p hp).1.2.1, fun k m hk => (h.al p hp).1.2.2 k m (cutM_some hk).1⟩, (h.al p hp).2⟩, hb, fun k hk => (by
    obtain ⟨h1, hlt⟩ := cutH_some hk
    rw [cutM_lt hlt]; exact h.res k h1)⟩
  · obtain ⟨h1, hlt⟩ := cutH_some hk
    obtain ⟨m, g1, g2, g3, g4, g5, g6⟩ := h.box k cs h1
    have := hcl k hlt
    rw [h1] at this
    exact ⟨m, by rw [cutM_lt hlt]; exact g1, g2, g3, g4, g5, RepMC.cut cs 0 this g6⟩
  · obtain ⟨h1, hlt⟩ := cutH_some hk
    obtain ⟨m, g1, g0, g2, g3, g4, g5, g6, g7, g8⟩ := h.arr k sz rows lv h1
    exact ⟨m, by rw [cutM_lt hlt]; exact g1, g0, g2, g3, g4, g5, g6, g7, g8⟩
  · obtain ⟨h1, hlt⟩ := cutH_some hk
    obtain ⟨m, g1, g0, g2, g3, g4, g5, g6⟩ := h.own k et cs h1
    have := hcl k hlt
    rw [h1] at this
    exact ⟨m, by rw [cutM_lt hlt]; exact g1, g0, g2, g3, g4, g5, RepMC.cut cs 0 this g6⟩
  · cases hh : cutH n hp k with
    | none => exact absurd hh hk
    | some b =>
      cases hh' : cutH n hp k' with
      | none => exact absurd hh' hk'
      | some b' => exact h.inj k k' m m' (by rw [(cutH_some hh).1]; simp) (by rw [(cutH_some hh').1]; simp) (cutM_some hm).1 (cutM_some hm').1 e
  · cases hh : cutM n M k with
    | none => rfl
    | some m => have := (cutM_some hh).2; omega
  · cases hh : cutH n hp k with
    | none => rfl
    | some m => have := (cutH_some hh).2; omega
end
end Ab
