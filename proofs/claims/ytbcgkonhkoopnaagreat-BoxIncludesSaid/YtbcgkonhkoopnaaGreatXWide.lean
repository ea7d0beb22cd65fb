import Derived.Test.YtbcgkonhkoopnaaGreatXOp7
/-!
Slices of slices that become data.
-/
namespace Ab
open Go Go.RowKit

section
variable {c : Ctx} {F : Foot} {M : Nat → Option MB} {hp : Nat → Option Blk} {nx : Nat} {w w' : World}

/-- the blocks of arrays that are handed on -/
def frzG (ks : List Nat) (hp : Nat → Option Blk) (M : Nat → Option MB) (F : Foot) : Foot := fun b =>
  F b ∨ ∃ k m, k ∈ ks ∧ ((∃ sz rows lv, hp k = some (.arr sz rows lv)) ∨ ∃ et cs, hp k = some (.own et cs)) ∧ M k = some m ∧ m.b = b

theorem frzW_at (ks : List Nat) (hp : Nat → Option Blk) (j : Nat) : frzW ks hp j = if j ∈ ks then frzC (hp j) else hp j := by
  cases ks with
  | nil => simp [frzW]
  | cons k ks =>
    simp only [frzW]
    by_cases h : j ∈ k :: ks
    · rw [(memN_iff j _).2 h]; simp [h]
    · have : memN j (k :: ks) = false := by
        cases hm : memN j (k :: ks)
        · rfl
        · exact absurd ((memN_iff j _).1 hm) h
      rw [this]; simp [h]

theorem frzC_none {b : Option Blk} (h : frzC b ≠ none) : b ≠ none := by
  cases b with
  | none => exact h
  | some b => simp

theorem HR.freezeW (h : HR c F M hp nx w) (ks : List Nat) : HR c (frzG ks hp M F) M (frzW ks hp) nx w ∧ Tr F M w (frzG ks hp M F) M w := by
  have t : Tr F M w (frzG ks hp M F) M w := ⟨fun b hb => .inl hb, fun _ _ => rfl, fun _ _ h => h, Nat.le_refl _, fun b hb => by
    rcases hb with hb | ⟨k, m, _, _, h1, h2⟩
    · exact .inl hb
    · exact .inr (.inl ⟨k, m, h1, h2⟩), fun k m h => .inl ⟨k, m, h, rfl⟩, fun _ _ _ => rfl⟩
  have un : ∀ j, frzW ks hp j ≠ none → hp j ≠ none := fun j hj => by
    rw [frzW_at] at hj
    split at hj
    · exact frzC_none hj
    · exact hj
  have nn : ∀ k, ((∃ sz rows lv, hp k = some (.arr sz rows lv)) ∨ ∃ et cs, hp k = some (.own et cs)) → hp k ≠ none := fun k hk => by
    rcases hk with ⟨sz, rows, lv, e⟩ | ⟨et, cs, e⟩ <;> rw [e] <;> simp
  refine ⟨⟨fun j cs hj => ?_, fun j sz rows lv hj => ?_, fun j et cs hj => ?_, fun j j' mj mj' hj hj' h1 h2 e => h.inj j j' mj mj' (un j hj) (un j' hj') h1 h2 e, fun j hj => ⟨(h.dom j hj).1, ?_⟩, fun b hb => ?_, fun b hb => ?_, fun g av hg => RepM.mono t.foot t.cell (fun _ _ h => h) _ _ (h.gl g av hg), h.bel, h.ml, h.al.tr t, h.base.tr t, fun j hj => (by
    rw [frzW_at] at hj
    split at hj
    · cases hb : hp j with
      | none => rw [hb] at hj; cases hj
      | some b => rw [hb] at hj; cases b <;> first | (cases hj; done) | exact h.res j hb
    · exact h.res j hj)⟩, t⟩
  · have hj' : hp j = some (.box cs) := by
      rw [frzW_at] at hj
      split at hj
      · unfold frzC at hj
        split at hj
        · cases hj
        · unfold frzB at hj; split at hj <;> simp_all
      · exact hj
    obtain ⟨m, h1, h2, h3, h4, h5, h6⟩ := h.box j cs hj'
    refine ⟨m, h1, h2, fun hf => ?_, h4, h5, RepMC.keep t rfl cs 0 h6⟩
    rcases hf with hf | ⟨k, mk, _, hk, hmk, e⟩
    · exact h3 hf
    · have := h.inj k j mk m (nn k hk) (by rw [hj']; simp) hmk h1 e
      subst this
      rcases hk with ⟨sz, rows, lv, e⟩ | ⟨et, cs, e⟩ <;> rw [hj'] at e <;> cases e
  · by_cases hm : j ∈ ks
    · rw [frzW_at, if_pos hm] at hj
      cases hb : hp j with
      | none => rw [hb] at hj; simp [frzC, frzB] at hj
      | some b =>
        cases b with
        | box cs => rw [hb] at hj; simp [frzC, frzB] at hj
        | own et cs => rw [hb] at hj; simp [frzC] at hj
        | res => rw [hb] at hj; simp [frzC, frzB] at hj
        | arr sz' rows' lv' =>
          rw [hb] at hj; simp [frzC, frzB] at hj
          obtain ⟨rfl, rfl, rfl⟩ := hj
          obtain ⟨m, h1, h0, h2, h3, h4, h5, h6, h7, h8⟩ := h.arr j _ rows' lv' hb
          exact ⟨m, h1, h0, h2, fun h => (by cases h), fun _ => .inr ⟨j, m, hm, .inl ⟨_, rows', lv', hb⟩, h1, rfl⟩, h5, h6, h7, RepR.keep t.foot t.cell rfl rows' 0 h8⟩
    · rw [frzW_at, if_neg hm] at hj
      obtain ⟨m, h1, h0, h2, h3, h4, h5, h6, h7, h8⟩ := h.arr j sz rows lv hj
      refine ⟨m, h1, h0, h2, fun hlv hf => ?_, fun hlv => .inl (h4 hlv), h5, h6, h7, RepR.keep t.foot t.cell rfl rows 0 h8⟩
      rcases hf with hf | ⟨k, mk, hk', hk, hmk, e⟩
      · exact h3 hlv hf
      · have := h.inj k j mk m (nn k hk) (by rw [hj]; simp) hmk h1 e
        subst this
        exact hm hk'
  · by_cases hm : j ∈ ks
    · exfalso
      rw [frzW_at, if_pos hm] at hj
      cases hb : hp j with
      | none => rw [hb] at hj; simp [frzC, frzB] at hj
      | some b => cases b <;> (rw [hb] at hj; simp [frzC, frzB] at hj)
    · rw [frzW_at, if_neg hm] at hj
      obtain ⟨m, h1, h0, h2, h3, h4, h5, h6⟩ := h.own j et cs hj
      refine ⟨m, h1, h0, h2, fun hf => ?_, h4, h5, RepMC.keep t rfl cs 0 h6⟩
      rcases hf with hf | ⟨k, mk, hk', hk, hmk, e⟩
      · exact h3 hf
      · have := h.inj k j mk m (nn k hk) (by rw [hj]; simp) hmk h1 e
        subst this
        exact hm hk'
  · rw [frzW_at, (h.dom j hj).2]; simp [frzC, frzB]
  · rcases hb with hb | ⟨k, mk, hk', hk, hmk, e⟩
    · exact h.fl b hb
    · rw [← e]; exact (h.owned (nn k hk) hmk).2.lt
  · rcases hb with hb | ⟨k, mk, hk', hk, hmk, e⟩
    · exact h.hist b hb
    · right; rw [← e]; exact (h.owned (nn k hk) hmk).1

theorem frzG_mono {ks ks' : List Nat} (h : ∀ k ∈ ks, k ∈ ks') {b : Nat} (hb : frzG ks hp M F b) : frzG ks' hp M F b := by
  rcases hb with hb | ⟨k, m, h1, h2⟩
  · exact .inl hb
  · exact .inr ⟨k, m, h k h1, h2⟩
theorem frzF_G {ks ks' : List Nat} (h : ∀ k ∈ ks, k ∈ ks') {b : Nat} (hb : frzF ks hp M F b) : frzG ks' hp M F b := by
  rcases hb with hb | ⟨k, m, sz, rows, lv, h1, h2, h3, h4⟩
  · exact .inl hb
  · exact .inr ⟨k, m, h k h1, .inl ⟨sz, rows, lv, h2⟩, h3, h4⟩

/-- cells that become rows of one cell -/
theorem RepR_ones {b : Nat} : ∀ (ds : List AV) (vs : List Value) (o : Nat), RepDL w F ds vs → (∀ d ∈ ds, one d = true) → (∀ j v, vs[j]? = some v → w.cell? ⟨b, o + j, none⟩ = some v) → RepR w F b 1 (ds.map fun d => [d]) o
  | [], vs, o, _, _, _ => by simp [RepR]
  | d :: ds, vs, o, h, h1, hc => by
      unfold RepDL at h
      obtain ⟨v, vs', rfl, h2, h3⟩ := h
      rw [List.map_cons]
      unfold RepR
      refine ⟨rfl, ?_, RepR_ones ds vs' (o + 1) h3 (fun x hx => h1 x (by simp [hx])) fun j u hu => ?_⟩
      · unfold RepC
        refine ⟨⟨h1 d (by simp), v, by simpa using hc 0 v rfl, h2⟩, ?_⟩
        unfold RepC; trivial
      · have := hc (j + 1) u (by simpa using hu)
        rwa [show o + 1 + j = o + (j + 1) by omega]

theorem toW_sound (h : HR c F M hp nx w) {av : AV} {v : Value} (hv : RepM w F M av v) {K : AV → Prop} (hK : toW hp av K) :
    ∃ d, RepD w (frzG (keysW hp av) hp M F) d v ∧ K d := by
  have gen : toDA hp av K → keysW hp av = keysA av → ∃ d, RepD w (frzG (keysW hp av) hp M F) d v ∧ K d := by
    intro hK he
    obtain ⟨d, h1, h2⟩ := toDA_sound h hv hK
    exact ⟨d, RepD.mono (fun b hb => frzF_G (fun k hk => by rw [he]; exact hk) hb) (fun _ _ => rfl) _ _ h1, h2⟩
  cases av with
  | ms k off len =>
    simp only [toW] at hK
    cases hb : hp k with
    | none => rw [hb] at hK; simp only [toD, hb] at hK
    | some blk =>
      rw [hb] at hK
      cases blk with
      | own et cs =>
        simp only at hK
        obtain ⟨hl, hK⟩ := hK
        obtain ⟨m, f1, f2, _, _, _, f6, f7⟩ := h.own k et cs hb
        have hs := RepMC.sub cs 0 off len f7
        rw [Nat.zero_add] at hs
        obtain ⟨vs, g1, g2, g3, g4⟩ := RepMC.vals _ _ hs
        obtain ⟨ds, d1, d2, hK⟩ := toDs_sound h _ _ g2 hK
        have hlen : ((cs.drop off).take len).length = len := by simp; omega
        have hdl : ds.length = len := by have := RepDL.len _ _ d1; omega
        have hkw : keysW hp (.ms k off len) = k :: keysL ((cs.drop off).take len) := by simp only [keysW, hb]
        refine ⟨_, ?_, hK⟩
        rw [hkw]
        have hF : frzG (k :: keysL ((cs.drop off).take len)) hp M F m.b := .inr ⟨k, m, by simp, .inr ⟨et, cs, hb⟩, f1, rfl⟩
        have d1' : RepDL w (frzG (k :: keysL ((cs.drop off).take len)) hp M F) ds vs := RepDL.mono (fun b hb => frzF_G (fun j hj => by simp [hj]) hb) (fun _ _ => rfl) _ _ d1
        unfold RepM at hv
        obtain ⟨m', e1, e2⟩ := hv
        rw [f1] at e1; cases e1
        unfold RepD
        rw [List.length_map, hdl]
        rcases e2 with ⟨e2, e3⟩ | ⟨rfl, _, p, cp, e4, e5⟩
        · refine ⟨_, _, e2, by omega, by omega, .inr ⟨m.b, off * m.sz, 1, rfl, hF, ?_⟩⟩
          rw [f2.2, Nat.mul_one]
          exact RepR_ones ds vs off d1' d2 g4
        · refine ⟨p, cp, e4, Nat.zero_le _, e5, .inl ?_⟩
          have : ds = [] := List.eq_nil_of_length_eq_zero hdl
          rw [this]; rfl
      | _ => exact gen hK (by simp only [keysW, hb]; rfl)
  | agg cs => exact gen hK rfl
  | yl l => exact gen hK rfl
  | tup cs => exact gen hK rfl
  | int k n => exact gen hK rfl
  | bool k => exact gen hK rfl
  | str k => exact gen hK rfl
  | sl k => exact gen hK rfl
  | nil => exact gen hK rfl
  | bp k n => exact gen hK rfl
  | ap k n o => exact gen hK rfl
  | er k n => exact gen hK rfl
  | fn k n => exact gen hK rfl
  | undef => exact gen hK rfl

theorem toWs_sound (h : HR c F M hp nx w) : ∀ (l : List AV) (vs : List Value), RepML w F M l vs → ∀ {K : List AV → Prop}, toWs hp l K →
    ∃ ds, RepDL w (frzG (keysWs hp l) hp M F) ds vs ∧ K ds
  | [], vs, hv, K, hK => ⟨[], by unfold RepML at hv; unfold RepDL; exact hv, hK⟩
  | a :: l, vs, hv, K, hK => by
      unfold RepML at hv
      obtain ⟨v, vs', rfl, h1, h2⟩ := hv
      unfold toWs at hK
      obtain ⟨d, h3, hK⟩ := toW_sound h h1 hK
      obtain ⟨ds, h5, hK⟩ := toWs_sound h l vs' h2 hK
      refine ⟨d :: ds, ?_, hK⟩
      unfold RepDL
      refine ⟨v, vs', rfl, RepD.mono (fun b hb => frzG_mono (fun k hk => ?_) hb) (fun _ _ => rfl) _ _ h3, RepDL.mono (fun b hb => frzG_mono (fun k hk => ?_) hb) (fun _ _ => rfl) _ _ h5⟩
      · simp [keysWs, hk]
      · simp [keysWs, hk]

/-- all blocks of the call's own -/
def frzP (hp : Nat → Option Blk) (M : Nat → Option MB) (F : Foot) : Foot := fun b => F b ∨ ∃ k m, hp k ≠ none ∧ M k = some m ∧ m.b = b
theorem frzF_P {ks : List Nat} {b : Nat} (hb : frzF ks hp M F b) : frzP hp M F b := by
  rcases hb with hb | ⟨k, m, sz, rows, lv, h1, h2, h3, h4⟩
  · exact .inl hb
  · exact .inr ⟨k, m, by rw [h2]; simp, h3, h4⟩
theorem frzP_lt (h : HR c F M hp nx w) {b : Nat} (hb : frzP hp M F b) : b < w.heap.size := by
  rcases hb with hb | ⟨k, m, h1, h2, h3⟩
  · exact h.fl b hb
  · exact h3 ▸ (h.owned h1 h2).2.lt
theorem toD_none {hp : Nat → Option Blk} {v : AV} {K : AV → Prop} (h : toD (fun _ => none) v K) : toD hp v K := by
  cases v with
  | ms k off n => exact h.elim
  | _ => exact h
theorem toDs_none {hp : Nat → Option Blk} : ∀ {l : List AV} {K : List AV → Prop}, toDs (fun _ => none) l K → toDs hp l K
  | [], _, h => h
  | v :: l, K, h => by
      unfold toDs at h ⊢
      have := toD_none (hp := hp) h
      revert this
      cases v <;> first | exact fun h => toDs_none (hp := hp) h | exact fun h => h.elim | (intro h2; exact h.elim)
theorem toP_sound (h : HR c F M hp nx w) {av : AV} {v : Value} (hv : RepM w F M av v) {K : AV → Prop} (hK : toP hp av K) :
    ∃ d, RepD w (frzP hp M F) d v ∧ K d := by
  have gen : toDA hp av K → ∃ d, RepD w (frzP hp M F) d v ∧ K d := by
    intro hK
    obtain ⟨d, h1, h2⟩ := toDA_sound h hv hK
    exact ⟨d, RepD.mono (fun b hb => frzF_P hb) (fun _ _ => rfl) _ _ h1, h2⟩
  cases av with
  | ms k off len =>
    simp only [toP] at hK
    cases hb : hp k with
    | none => rw [hb] at hK; simp only [toD, hb] at hK
    | some blk =>
      rw [hb] at hK
      cases blk with
      | box cs =>
        simp only at hK
        obtain ⟨⟨hcap, hl⟩, hK⟩ := hK
        have hcap := Nat.le_of_ble_eq_true hcap
        obtain ⟨m, f1, _, _, _, f2, f7⟩ := h.box k cs hb
        have hs := RepMC.sub cs 0 off len f7
        rw [Nat.zero_add] at hs
        obtain ⟨vs, g1, g2, g3, g4⟩ := RepMC.vals _ _ hs
        obtain ⟨ds, d1, d2, hK⟩ := toDs_sound h _ _ g2 (toDs_none hK)
        have hlen : ((cs.drop off).take len).length = len := by simp; omega
        have hdl : ds.length = len := by have := RepDL.len _ _ d1; omega
        refine ⟨_, ?_, hK⟩
        have hF : frzP hp M F m.b := .inr ⟨k, m, by rw [hb]; simp, f1, rfl⟩
        have d1' : RepDL w (frzP hp M F) ds vs := RepDL.mono (fun b hb => frzF_P hb) (fun _ _ => rfl) _ _ d1
        unfold RepM at hv
        obtain ⟨m', e1, e2⟩ := hv
        rw [f1] at e1; cases e1
        have hmax : m.cap ≤ maxLen := by rw [← f2.2]; exact Nat.le_trans hcap (by decide)
        unfold RepD
        rw [List.length_map, hdl]
        rcases e2 with ⟨e2, e3⟩ | ⟨rfl, _, p, cp, e4, e5⟩
        · refine ⟨_, _, e2, by omega, by omega, .inr ⟨m.b, off * m.sz, 1, rfl, hF, ?_⟩⟩
          rw [f2.1, Nat.mul_one]
          exact RepR_ones ds vs off d1' d2 g4
        · refine ⟨p, cp, e4, Nat.zero_le _, e5, .inl ?_⟩
          have : ds = [] := List.eq_nil_of_length_eq_zero hdl
          rw [this]; rfl
      | _ => exact gen hK
  | _ => exact gen hK
theorem toPs_sound (h : HR c F M hp nx w) : ∀ (l : List AV) (vs : List Value), RepML w F M l vs → ∀ {K : List AV → Prop}, toPs hp l K →
    ∃ ds, RepDL w (frzP hp M F) ds vs ∧ K ds
  | [], vs, hv, K, hK => ⟨[], by unfold RepML at hv; unfold RepDL; exact hv, hK⟩
  | a :: l, vs, hv, K, hK => by
      unfold RepML at hv
      obtain ⟨v, vs', rfl, h1, h2⟩ := hv
      unfold toPs at hK
      obtain ⟨d, h3, hK⟩ := toP_sound h h1 hK
      obtain ⟨ds, h5, hK⟩ := toPs_sound h l vs' h2 hK
      refine ⟨d :: ds, ?_, hK⟩
      unfold RepDL
      exact ⟨v, vs', rfl, h3, h5⟩

theorem toWR_sound (h : HR c F M hp nx w) {av : AV} {v : Value} (hv : RepM w F M av v) {K : AV → Prop} (hK : toWR hp av K) :
    ∃ d, RepD w (frzG (keysWR hp av) hp M F) d v ∧ K d := by
  cases av with
  | tup cs =>
    unfold RepM at hv
    obtain ⟨vs, rfl, h2⟩ := hv
    obtain ⟨ds, h3, h4⟩ := toWs_sound h cs vs h2 hK
    exact ⟨.tup ds, by unfold RepD; exact ⟨vs, rfl, h3⟩, h4⟩
  | _ => exact toW_sound h hv hK
end
end Ab
