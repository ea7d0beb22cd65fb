import Derived.Test.YtbcgkonhkoopnaaGreatXOp3
/-!
Soundness of slicing, make, append, copy.
-/
namespace Ab
open Go Go.RowKit

section
variable {c : Ctx} {ro : Option Nat} {N : Nat} {F F' : Foot} {M M' : Nat → Option MB} {s : St} {a : Act} {w w' : World} {P : Program} {o : Oper} {K : St → Prop} {Q : Exit → Act → World → Prop}

theorem run_slice {t et : TypeId} {te : TypeInfo} (hu : P.underlying t = some (.slice et)) (hi : P.info? et = some te) {lo hi' : Option Value} {p : Option Addr} {n cp l h : Nat}
    (hhi : (hi' = none ∧ h = n) ∨ ∃ k i, hi' = some (.int k i) ∧ 0 ≤ i ∧ i ≤ (n : Int) ∧ h = i.toNat)
    (hlo : (lo = none ∧ l = 0) ∨ ∃ k i, lo = some (.int k i) ∧ 0 ≤ i ∧ i ≤ (h : Int) ∧ l = i.toNat) (hn : n ≤ cp) :
    (Instr.sliceAt t (.slice p n cp) lo hi' none).run P w = .ok (.slice (if cp = l then p else p.map (·.add (l * te.size))) (h - l) (cp - l)) w := by
  have hs : (Go.sizeOf et).run P w = .ok te.size w := by simp [Go.sizeOf, typeInfo, hi]
  rcases hhi with ⟨rfl, rfl⟩ | ⟨k, i, rfl, h0, h1, rfl⟩
  · rcases hlo with ⟨rfl, rfl⟩ | ⟨k', i', rfl, h0', h1', rfl⟩
    · simp [Instr.sliceAt, run_underlying hu, Instr.slice, Instr.sliceBounds, hs]
    · simp [Instr.sliceAt, run_underlying hu, Instr.slice, Instr.sliceBounds, Instr.sliceBound, asIntOf, h0', h1', hs]
  · have h2 : i ≤ (cp : Int) := by omega
    rcases hlo with ⟨rfl, rfl⟩ | ⟨k', i', rfl, h0', h1', rfl⟩
    · simp [Instr.sliceAt, run_underlying hu, Instr.slice, Instr.sliceBounds, Instr.sliceBound, asIntOf, h0, h2, hs]
    · have h3 : i' ≤ ((i.toNat : Nat) : Int) := h1'
      simp only [Instr.sliceAt, run_underlying hu, Instr.slice, Instr.sliceBounds, Instr.sliceBound, asIntOf, hs, Sem.run_bind, Sem.run_pure, Result.andThen, h0, h2, h0', h3, and_self, if_true]

theorem op_slice {lim : Option (Nat → Bool)} {t : TypeId} {x : Operand} {lo hi' : Option Operand} (ho : o.op = .slice t x lo hi' none) (hT : TOk P c.T) (h : Rel c N F M s a w) (hd : ∀ t, o.dst = some t → t < N) (hx : ∀ t, x = .tmp t → t < N)
    (hlo : ∀ y, lo = some y → ∀ t, y = .tmp t → t < N) (hhi : ∀ y, hi' = some y → ∀ t, y = .tmp t → t < N)
    (hK : aSlice c.T lim t (ev c.gl s x) (lo.map (ev c.gl s)) (hi'.map (ev c.gl s)) s fun v => K (Ab.put o.dst v s)) : o.wpIn (Fw ro) 0 P a w (Post c N F M w K) Q := by
  have hx' := h.ev x hx
  generalize ev c.gl s x = ax at hx' hK
  unfold aSlice at hK
  cases he : ((look c.T t).bind fun i => i.sl).bind (look c.T) with
  | none =>
    rw [he] at hK
    cases lo with
    | some _ => exact hK.elim
    | none =>
      cases hi' with
      | some _ => exact hK.elim
      | none =>
        simp only [Option.map_none] at hK
        unfold aSliceArr at hK
        cases ha : (look c.T t).bind fun i => i.arr with
        | none => rw [ha] at hK; exact hK.elim
        | some p =>
          rw [ha] at hK
          obtain ⟨n, z⟩ := p
          obtain ⟨i, hl, hi⟩ : ∃ i, look c.T t = some i ∧ i.arr = some (n, z) := by
            cases hl : look c.T t with
            | none => simp [hl] at ha
            | some i => exact ⟨i, rfl, by simpa [hl] using ha⟩
          obtain ⟨ti, d, zz, _, hu, _, _, _, _, _, _, _, _, _, harr, _⟩ := hT.parts hl
          obtain ⟨et, rfl, hz⟩ := harr n z hi
          cases ax with
          | bp k oo =>
            match z, oo, hK with
            | 1, 0, hK =>
              have hK := inLim_out hK
              cases hb : s.hp k with
              | none => rw [hb] at hK; exact hK.elim
              | some blk =>
                cases blk with
                | box cs =>
                  rw [hb] at hK
                  simp only [lenL_eq] at hK
                  cases hq : Nat.beq cs.length n with
                  | false => rw [hq] at hK; exact hK.elim
                  | true =>
                    rw [hq] at hK
                    have hq := Nat.eq_of_beq_eq_true hq
                    obtain ⟨m, f1, _, _, _, f2, _⟩ := h.box k cs hb
                    unfold RepM at hx'
                    obtain ⟨m', h4, h5⟩ := hx'
                    rw [f1] at h4; cases h4
                    have hs : ∃ te, P.info? et = some te := by
                      unfold Program.cellsOf at hz
                      cases hq : P.info? et with
                      | none => rw [hq] at hz; simp at hz
                      | some te => exact ⟨te, rfl⟩
                    obtain ⟨te, hte⟩ := hs
                    refine wp_pure h hd (v := .slice (some ⟨m.b, 0, none⟩) n n) ?_ ?_ hK
                    · simp [execOp, ho, h5, Instr.sliceAt, run_underlying hu, Instr.sureAddr, Instr.sliceBounds, Go.sizeOf, typeInfo, hte, Result.andThen]
                      intro h0; rfl
                    · unfold RepM
                      exact ⟨m, f1, .inl ⟨by rw [Nat.zero_mul, Nat.sub_zero, ← f2.2, hq], by rw [← f2.2, hq]; omega⟩⟩
                | _ => rw [hb] at hK; exact hK.elim
          | _ =>
            first
            | exact hK.elim
            | (split at hK <;> exact hK.elim)
  | some e =>
    rw [he] at hK
    obtain ⟨et, ti, z, hu, hi, hz, hsz, _, _, _⟩ := hT.elem he
    simp only at hK
    -- the bounds
    have bounds : ∀ (n : Nat) (K' : Nat → Nat → Prop),
        (match hi'.map (ev c.gl s) with | none => fun k : Nat → Prop => k n | some (.int _ h) => fun k => 0 ≤ h ∧ h ≤ (n : Int) ∧ k h.toNat | _ => fun _ => False)
          (fun h => (match lo.map (ev c.gl s) with | none => fun k : Nat → Prop => k 0 | some (.int _ l) => fun k => 0 ≤ l ∧ l ≤ (h : Int) ∧ k l.toNat | _ => fun _ => False) fun l => K' h l) →
        ∃ h' l, ((hi'.map a.eval = none ∧ h' = n) ∨ ∃ k i, hi'.map a.eval = some (.int k i) ∧ 0 ≤ i ∧ i ≤ (n : Int) ∧ h' = i.toNat) ∧
          ((lo.map a.eval = none ∧ l = 0) ∨ ∃ k i, lo.map a.eval = some (.int k i) ∧ 0 ≤ i ∧ i ≤ (h' : Int) ∧ l = i.toNat) ∧ K' h' l := by
      intro n K' hb
      have lob : ∀ h' : Nat, (match lo.map (ev c.gl s) with | none => fun k : Nat → Prop => k 0 | some (.int _ l) => fun k => 0 ≤ l ∧ l ≤ (h' : Int) ∧ k l.toNat | _ => fun _ => False) (fun l => K' h' l) →
          ∃ l, ((lo.map a.eval = none ∧ l = 0) ∨ ∃ k i, lo.map a.eval = some (.int k i) ∧ 0 ≤ i ∧ i ≤ (h' : Int) ∧ l = i.toNat) ∧ K' h' l := by
        intro h' hb
        cases lo with
        | none => exact ⟨0, .inl ⟨rfl, rfl⟩, hb⟩
        | some y =>
          have hy := h.ev y (hlo y rfl)
          simp only [Option.map_some] at hb ⊢
          generalize ev c.gl s y = ay at hy hb
          cases ay with
          | int k i => unfold RepM at hy; exact ⟨i.toNat, .inr ⟨k, i, by rw [hy], hb.1, hb.2.1, rfl⟩, hb.2.2⟩
          | _ => exact hb.elim
      cases hi' with
      | none =>
        obtain ⟨l, h1, h2⟩ := lob n hb
        exact ⟨n, l, .inl ⟨rfl, rfl⟩, h1, h2⟩
      | some y =>
        have hy := h.ev y (hhi y rfl)
        simp only [Option.map_some] at hb ⊢
        generalize ev c.gl s y = ay at hy hb
        cases ay with
        | int k i =>
          unfold RepM at hy
          obtain ⟨l, h1, h2⟩ := lob i.toNat hb.2.2
          exact ⟨i.toNat, l, .inr ⟨k, i, by rw [hy], hb.1, hb.2.1, rfl⟩, h1, h2⟩
        | _ => exact hb.elim
    have le_of : ∀ {n h' l : Nat}, ((hi'.map a.eval = none ∧ h' = n) ∨ ∃ k i, hi'.map a.eval = some (.int k i) ∧ 0 ≤ i ∧ i ≤ (n : Int) ∧ h' = i.toNat) →
          ((lo.map a.eval = none ∧ l = 0) ∨ ∃ k i, lo.map a.eval = some (.int k i) ∧ 0 ≤ i ∧ i ≤ (h' : Int) ∧ l = i.toNat) → h' ≤ n ∧ l ≤ h' := by
      intro n h' l h1 h2
      refine ⟨?_, ?_⟩
      · rcases h1 with ⟨_, rfl⟩ | ⟨_, i, _, _, _, rfl⟩ <;> omega
      · rcases h2 with ⟨_, rfl⟩ | ⟨_, i, _, _, _, rfl⟩ <;> omega
    have run : ∀ {p : Option Addr} {n cp h' l : Nat}, a.eval x = .slice p n cp → n ≤ cp →
        ((hi'.map a.eval = none ∧ h' = n) ∨ ∃ k i, hi'.map a.eval = some (.int k i) ∧ 0 ≤ i ∧ i ≤ (n : Int) ∧ h' = i.toNat) →
        ((lo.map a.eval = none ∧ l = 0) ∨ ∃ k i, lo.map a.eval = some (.int k i) ∧ 0 ≤ i ∧ i ≤ (h' : Int) ∧ l = i.toNat) →
        (execOp a.eval o).run P w = .ok (.value (.slice (if cp = l then p else p.map (·.add (l * ti.size))) (h' - l) (cp - l))) w := by
      intro p n cp h' l hv hn h1 h2
      have := run_slice (P := P) (w := w) hu hi (p := p) h1 h2 hn
      simp only [execOp, ho, hv, Option.map_none, this, Sem.run_bind, Result.andThen, Sem.run_pure]
    cases ax with
    | sl rows =>
      simp only [lenOf] at hK
      obtain ⟨h', l, h1, h2, hok, hK⟩ := bounds rows.length _ hK
      have hle := le_of h1 h2
      unfold RepM RepD at hx'
      obtain ⟨p, cp, g1, g2, g3, g4⟩ := hx'
      refine wp_pure h hd (run g1 g2 h1 h2) ?_ hK
      have hlen : ((rows.take h').drop l).length = h' - l := by simp; omega
      unfold RepM RepD
      rw [hlen]
      refine ⟨_, _, rfl, by omega, by omega, ?_⟩
      by_cases e0 : (rows.take h').drop l = []
      · exact .inl e0
      · right
        have hpos : h' - l ≠ 0 := fun e => e0 (List.eq_nil_of_length_eq_zero (hlen.trans e))
        rcases g4 with g4 | ⟨b, off, sz, g4, g5, g6⟩
        · subst g4; simp at hle; omega
        · have hsz' : ti.size = sz := by
            have hne : rows ≠ [] := fun e => by subst e; simp at hle; omega
            obtain ⟨row, hr⟩ := List.exists_mem_of_ne_nil rows hne
            rw [← hsz, ← hok row hr, RepR.rowlen g6 row hr]
          refine ⟨b, off + l * sz, sz, ?_, g5, ?_⟩
          · rw [if_neg (by omega), g4]; simp [Addr.add_lit, hsz']
          · rw [List.drop_take]; exact RepR.sub rows off l (h' - l) g6
    | nil =>
      simp only [lenOf] at hK
      obtain ⟨h', l, h1, h2, hK⟩ := bounds 0 _ hK
      have hle := le_of h1 h2
      unfold RepM at hx'
      refine wp_pure h hd (run hx' (Nat.le_refl _) h1 h2) ?_ hK
      have : l = 0 := by omega
      have : h' = 0 := by omega
      subst_vars
      unfold RepM; rfl
    | ms k off n =>
      simp only [lenOf] at hK
      obtain ⟨h', l, h1, h2, hK2⟩ := bounds n _ hK
      clear hK
      have hle := le_of h1 h2
      have hK2 := inLim_out hK2
      cases hb : s.hp k with
      | none => rw [hb] at hK2; exact hK2.elim
      | some blk =>
        cases blk with
        | res => first | exact hK.elim | (rw [hb] at hK; exact hK.elim) | exact h.elim | (rw [hb] at h; exact h.elim) | (rw [hb] at hK2; exact hK2.elim) | (rw [hb] at hK; simp only at hK; exact hK.elim) | exact Sel.no | exact Gives.none | exact Give2.none | exact toDB_ok hp (.ms k off len) | (have := Sel.toD (hp := hp) (.ms k off len); exact this) | exact .inl rfl | (cases hK; done) | (cases h; done)
        | box _ => rw [hb] at hK2; exact hK2.elim
        | own et' cs =>
          rw [hb] at hK2
          simp only at hK2
          cases hq : Nat.beq 1 e.sz with
          | false => rw [hq] at hK2; exact hK2.elim
          | true =>
            rw [hq] at hK2
            have hq := Nat.eq_of_beq_eq_true hq
            obtain ⟨m, f1, f2, _, _, _, f6, _⟩ := h.own k et' cs hb
            have hms : ti.size = m.sz := by rw [← hsz, ← hq, ← f2.2]
            unfold RepM at hx'
            obtain ⟨m', g1, g2⟩ := hx'
            rw [f1] at g1; cases g1
            rcases g2 with ⟨g2, g3⟩ | ⟨rfl, g3, p, cp, g4, g5⟩
            · refine wp_pure h hd (run g2 (by omega) h1 h2) ?_ hK2
              unfold RepM
              refine ⟨m, f1, ?_⟩
              by_cases e : m.cap - off = l
              · by_cases e2 : l = 0
                · left
                  subst e2
                  rw [if_pos e]
                  exact ⟨by simp, by omega⟩
                · right
                  exact ⟨by omega, by omega, _, _, by rw [show h' - l = 0 by omega], by omega⟩
              · left
                rw [if_neg e]
                refine ⟨?_, by omega⟩
                simp only [Option.map_some, Addr.add_lit, hms]
                rw [Nat.add_mul, Nat.sub_sub]
            · refine wp_pure h hd (run g4 (Nat.zero_le _) h1 h2) ?_ hK2
              unfold RepM
              have : l = 0 := by omega
              have : h' = 0 := by omega
              subst_vars
              exact ⟨m, f1, .inr ⟨rfl, by omega, _, _, rfl, by omega⟩⟩
        | arr sz rows lv =>
          rw [hb] at hK2
          simp only at hK2
          cases hq : Nat.beq sz.2 e.sz with
          | false => rw [hq] at hK2; exact hK2.elim
          | true =>
            rw [hq] at hK2
            have hq := Nat.eq_of_beq_eq_true hq
            obtain ⟨m, f1, f2, _, _, _, _, f6, _⟩ := h.arr k sz rows lv hb
            have hms : ti.size = m.sz := by rw [← hsz, ← hq, ← f2]
            unfold RepM at hx'
            obtain ⟨m', g1, g2⟩ := hx'
            rw [f1] at g1; cases g1
            rcases g2 with ⟨g2, g3⟩ | ⟨rfl, g3, p, cp, g4, g5⟩
            · refine wp_pure h hd (run g2 (by omega) h1 h2) ?_ hK2
              unfold RepM
              refine ⟨m, f1, ?_⟩
              by_cases e : m.cap - off = l
              · by_cases e2 : l = 0
                · left
                  subst e2
                  rw [if_pos e]
                  exact ⟨by simp, by omega⟩
                · right
                  exact ⟨by omega, by omega, _, _, by rw [show h' - l = 0 by omega], by omega⟩
              · left
                rw [if_neg e]
                refine ⟨?_, by omega⟩
                simp only [Option.map_some, Addr.add_lit, hms]
                rw [Nat.add_mul, Nat.sub_sub]
            · refine wp_pure h hd (run g4 (Nat.zero_le _) h1 h2) ?_ hK2
              unfold RepM
              have : l = 0 := by omega
              have : h' = 0 := by omega
              subst_vars
              exact ⟨m, f1, .inr ⟨rfl, by omega, _, _, rfl, by omega⟩⟩
    | _ => exact hK.elim

/-! rows as one list of cells -/

theorem RepDL_of : ∀ (l : List AV) (vs : List Value), l.length = vs.length → (∀ (j : Nat) (x : AV) (v : Value), l[j]? = some x → vs[j]? = some v → RepD w F x v) → RepDL w F l vs
  | [], vs, h, _ => by
      unfold RepDL
      exact List.eq_nil_of_length_eq_zero (by simpa using h.symm)
  | x :: l, [], h, _ => by simp at h
  | x :: l, v :: vs, h, hp => by
      unfold RepDL
      exact ⟨v, vs, rfl, hp 0 x v rfl rfl, RepDL_of l vs (by simpa using h) fun j y u hy hu => hp (j + 1) y u (by simpa using hy) (by simpa using hu)⟩

theorem RepDL.app {l m : List AV} {vs us : List Value} (h : RepDL w F l vs) (g : RepDL w F m us) : RepDL w F (l ++ m) (vs ++ us) := by
  refine RepDL_of _ _ (by simp [RepDL.len _ _ h, RepDL.len _ _ g]) fun j x v hx hv => ?_
  have hl := RepDL.len _ _ h
  by_cases hj : j < l.length
  · rw [List.getElem?_append_left hj] at hx
    rw [List.getElem?_append_left (by omega)] at hv
    obtain ⟨u, h1, h2⟩ := RepDL.get _ _ _ _ h hx
    rw [hv] at h1; cases h1; exact h2
  · rw [List.getElem?_append_right (by omega)] at hx
    rw [List.getElem?_append_right (by omega), hl] at hv
    obtain ⟨u, h1, h2⟩ := RepDL.get _ _ _ _ g hx
    rw [hv] at h1; cases h1; exact h2
theorem RepDL.take {l : List AV} {vs : List Value} (n : Nat) (h : RepDL w F l vs) : RepDL w F (l.take n) (vs.take n) := by
  refine RepDL_of _ _ (by simp [RepDL.len _ _ h]) fun j x v hx hv => ?_
  rw [List.getElem?_take] at hx hv
  split at hx
  · rename_i hj
    rw [if_pos hj] at hv
    obtain ⟨u, h1, h2⟩ := RepDL.get _ _ _ _ h hx
    rw [hv] at h1; cases h1; exact h2
  · cases hx
theorem RepDL.drop {l : List AV} {vs : List Value} (n : Nat) (h : RepDL w F l vs) : RepDL w F (l.drop n) (vs.drop n) := by
  refine RepDL_of _ _ (by simp [RepDL.len _ _ h]) fun j x v hx hv => ?_
  rw [List.getElem?_drop] at hx hv
  obtain ⟨u, h1, h2⟩ := RepDL.get _ _ _ _ h hx
  rw [hv] at h1; cases h1; exact h2

theorem RepR_flat {b sz : Nat} : ∀ (rows : List (List AV)) (vs : List Value) (o : Nat), RowsOk sz rows → RepDL w F rows.flatten vs → (∀ x ∈ rows.flatten, one x = true) → (∀ j v, vs[j]? = some v → w.cell? ⟨b, o + j, none⟩ = some v) → RepR w F b sz rows o
  | [], _, _, _, _, _, _ => by unfold RepR; trivial
  | r :: rs, vs, o, hok, h, h1, hc => by
      have hr := hok r (by simp)
      rw [List.flatten_cons] at h h1
      have hl := RepDL.len _ _ h
      rw [List.length_append] at hl
      unfold RepR
      refine ⟨hr, RepC_of r o fun j x hx => ?_, RepR_flat rs (vs.drop sz) (o + sz) (fun q hq => hok q (by simp [hq])) ?_ (fun x hx => h1 x (List.mem_append_right _ hx)) fun j v hv => ?_⟩
      · have hj : j < r.length := by
          rcases Nat.lt_or_ge j r.length with h | h
          · exact h
          · rw [List.getElem?_eq_none h] at hx; cases hx
        obtain ⟨v, e1, e2⟩ := RepDL.get _ _ j x h (by rw [List.getElem?_append_left hj]; exact hx)
        exact ⟨h1 x (List.mem_append_left _ (List.mem_of_getElem? hx)), v, hc j v e1, e2⟩
      · have := RepDL.drop r.length h
        rw [List.drop_left] at this
        rw [← hr]; exact this
      · rw [List.getElem?_drop] at hv
        have := hc _ v hv
        rwa [show o + sz + j = o + (sz + j) by omega]

theorem RepR.flat {b sz : Nat} {cs : List Value} : ∀ (rows : List (List AV)) (o : Nat), RepR w F b sz rows o → o + rows.length * sz ≤ cs.length → (∀ j, o ≤ j → j < o + rows.length * sz → w.cell? ⟨b, j, none⟩ = cs[j]?) →
    RepDL w F rows.flatten ((cs.drop o).take (rows.length * sz)) ∧ ∀ x ∈ rows.flatten, one x = true
  | [], o, _, _, _ => by simp [RepDL]
  | r :: rs, o, h, hl, hc => by
      unfold RepR at h
      have hmul : (r :: rs).length * sz = sz + rs.length * sz := by rw [List.length_cons, Nat.add_mul]; omega
      rw [hmul] at hl hc ⊢
      obtain ⟨i1, i2⟩ := RepR.flat (cs := cs) rs (o + sz) h.2.2 (by omega) (fun j h1 h2 => hc j (by omega) (by omega))
      have hrow : RepDL w F r ((cs.drop o).take sz) := by
        refine RepDL_of _ _ (by simp; omega) fun j x v hx hv => ?_
        have hj : j < sz := by
          rcases Nat.lt_or_ge j r.length with h' | h'
          · omega
          · rw [List.getElem?_eq_none h'] at hx; cases hx
        obtain ⟨_, u, e1, e2⟩ := RepC.at r o j x h.2.1 hx
        rw [List.getElem?_take, if_pos hj, List.getElem?_drop] at hv
        rw [hc (o + j) (by omega) (by omega), hv] at e1
        cases e1; exact e2
      refine ⟨?_, fun x hx => ?_⟩
      · rw [List.flatten_cons]
        have := hrow.app i1
        have e : (cs.drop o).take (sz + rs.length * sz) = (cs.drop o).take sz ++ (cs.drop (o + sz)).take (rs.length * sz) := by
          rw [List.take_add, List.drop_drop]
        rw [e]; exact this
      · rw [List.flatten_cons, List.mem_append] at hx
        rcases hx with hx | hx
        · obtain ⟨j, hj⟩ := List.getElem?_of_mem hx
          exact (RepC.at r o j x h.2.1 hj).1
        · exact i2 x hx

theorem flat_len {sz : Nat} : ∀ (rows : List (List AV)), RowsOk sz rows → rows.flatten.length = rows.length * sz
  | [], _ => by simp
  | r :: rs, h => by
      rw [List.flatten_cons, List.length_append, flat_len rs (fun q hq => h q (by simp [hq])), h r (by simp), List.length_cons, Nat.add_mul]; omega

theorem toD_one {hp : Nat → Option Blk} {av : AV} {K : AV → Prop} (h : toD hp av K) : one av = true := by
  cases av <;> first | rfl | (simp only [toD] at h)

theorem toDs_ones {hp : Nat → Option Blk} : ∀ (l : List AV) {K : List AV → Prop}, toDs hp l K → ones l = true
  | [], _, _ => rfl
  | x :: l, K, h => by
      unfold toDs at h
      have h1 := toD_one h
      obtain ⟨d, h⟩ := toD_some h
      simp only [ones, h1, toDs_ones l h]; rfl

theorem keys_ofV : ∀ (v : Value), keys (ofV v) = []
  | .int _ _ => by unfold ofV; rfl
  | .bool _ => by unfold ofV; rfl
  | .string _ => by unfold ofV; rfl
  | .slice none 0 0 => by unfold ofV; rfl
  | .agg ⟨cs⟩ => by unfold ofV; rfl
  | .tuple ⟨cs⟩ => by unfold ofV; rfl
  | .slice none 0 (n + 1) => by unfold ofV; rfl
  | .slice none (n + 1) _ => by unfold ofV; rfl
  | .slice (some _) _ _ => by unfold ofV; rfl
  | .float _ _ => by unfold ofV; rfl
  | .complex _ _ _ => by unfold ofV; rfl
  | .pointer _ => by unfold ofV; rfl
  | .map _ => by unfold ofV; rfl
  | .chan _ => by unfold ofV; rfl
  | .func _ _ _ => by unfold ofV; rfl
  | .nilFunc => by unfold ofV; rfl
  | .iface _ _ => by unfold ofV; rfl
  | .nilIface => by unfold ofV; rfl

theorem keysL_ofVs : ∀ (vs : List Value), keysL (ofVs vs) = []
  | [] => by unfold ofVs; rfl
  | v :: vs => by unfold ofVs keysL; rw [keys_ofV v, keysL_ofVs vs]; rfl

theorem keysL_cells_ofV (v : Value) : keysL (cells (ofV v)) = [] := by
  have h := keys_ofV v
  cases v with
  | agg cs =>
    obtain ⟨cs⟩ := cs
    unfold ofV
    exact keysL_ofVs cs
  | tuple cs => obtain ⟨cs⟩ := cs; unfold ofV; rfl
  | slice p n cp =>
    cases p with
    | none => cases n <;> cases cp <;> (unfold ofV; rfl)
    | some _ => unfold ofV; rfl
  | _ => unfold ofV; rfl

/-- the zero value's cells, as data -/
theorem zero_row {hp : Nat → Option Blk} {nx : Nat} (h : HR c F M hp nx w) {z : Value} {K : List AV → Prop} (hK : toDs hp (cells (ofV z)) K) :
    ∃ row, RepDL w F row z.cells.toList ∧ (∀ d ∈ row, one d = true) ∧ (∀ u ∈ z.cells.toList, u.oneCell' = true) ∧ K row := by
  have hc := cells_rep (w := w) (F := F) (M := M) (toDs_ones _ hK) (evOfV z)
  obtain ⟨ds, h1, h2, h3⟩ := toDs_sound h _ _ hc.1 hK
  rw [keysL_cells_ofV] at h1
  refine ⟨ds, RepDL.mono (fun b hb => ?_) (fun _ _ => rfl) _ _ h1, h2, hc.2, h3⟩
  rcases hb with hb | ⟨k, _, _, _, _, hk, _⟩
  · exact hb
  · cases hk

theorem made_get (z : Array Value) (sz n j : Nat) (hz : z.size = sz) (hs : 0 < sz) (hj : j < n * sz) : (madeCells z (n * sz)).toList[j]? = z.toList[j % sz]? := by
  have h1 : j % sz < z.size := by rw [hz]; exact Nat.mod_lt _ hs
  simp [madeCells, hj, hz, getElem!_pos z (j % sz) h1]

theorem repl_get {α : Type} (row : List α) (sz : Nat) (hs : row.length = sz) : ∀ (n j : Nat), j < n * sz → (List.replicate n row).flatten[j]? = row[j % sz]?
  | 0, j, h => by simp at h
  | n + 1, j, h => by
      rw [List.replicate_succ, List.flatten_cons]
      by_cases hj : j < sz
      · rw [List.getElem?_append_left (by omega), Nat.mod_eq_of_lt hj]
      · rw [List.getElem?_append_right (by omega), hs, repl_get row sz hs n (j - sz) (by rw [Nat.add_mul] at h; omega), ← Nat.mod_eq_sub_mod (by omega)]

theorem repl_rep {row : List AV} {z : Array Value} {sz : Nat} (h : RepDL w F row z.toList) (hl : row.length = sz) (hs : 0 < sz) (n : Nat) : RepDL w F (List.replicate n row).flatten (madeCells z (n * sz)).toList := by
  have hz : z.size = sz := by have := RepDL.len _ _ h; simp at this; omega
  have hfl : (List.replicate n row).flatten.length = n * sz := by
    have := flat_len (sz := sz) (List.replicate n row) (fun q hq => by rw [List.eq_of_mem_replicate hq]; exact hl)
    simpa using this
  refine RepDL_of _ _ (by rw [hfl]; simp [size_madeCells]) fun j x v hx hv => ?_
  have hj : j < n * sz := by
    rcases Nat.lt_or_ge j (n * sz) with h | h
    · exact h
    · rw [List.getElem?_eq_none (by omega)] at hx; cases hx
  rw [repl_get row sz hl n j hj] at hx
  rw [made_get z sz n j hz hs hj] at hv
  obtain ⟨u, h1, h2⟩ := RepDL.get _ _ _ _ h hx
  rw [hv] at h1; cases h1; exact h2

/-- a new array of known rows -/
theorem HR.newArr {hp : Nat → Option Blk} {nx : Nat} (h : HR c F M hp nx w) {rows : List (List AV)} {vs : List Value} {sz cap et : Nat} (hv : RepDL w F rows.flatten (vs.take (rows.length * sz))) (h1 : ∀ x ∈ rows.flatten, one x = true)
    (hok : RowsOk sz rows) (hs : 0 < sz) (hc : rows.length ≤ cap) (hm : cap ≤ maxLen) (hl : vs.length = cap * sz) :
    ∃ M', HR c F M' (upd nx (some (.arr (et, sz) rows true)) hp) (nx + 1) (w.alloc (.cells ⟨vs⟩ et)) ∧ Tr F M w F M' (w.alloc (.cells ⟨vs⟩ et)) ∧
      M' nx = some ⟨w.heap.size, sz, cap, et⟩ := by
  have key := h.grow none (m := ⟨w.heap.size, sz, cap, et⟩) (blk := .arr (et, sz) rows true) (fun b hb _ => alloc_heap _ b hb) (by simp) (fun k hk => by cases hk) (.inl (Nat.le_refl _))
    (h.bel.alloc h.bel.size (.cells ⟨vs⟩ et)) (alloc_own hl) fun t => ⟨rfl, rfl, ⟨hc, hm⟩, hs, RepR_flat rows (vs.take (rows.length * sz)) 0 hok (RepDL.mono t.foot t.cell _ _ hv) h1 fun j v hj => ?_⟩
  · exact ⟨_, key.1, key.2, by simp⟩
  · rw [List.getElem?_take] at hj
    split at hj
    · exact alloc_cell vs et j v hj
    · cases hj

/-- a new array of elements that need not be data -/
theorem HR.newOwn {hp : Nat → Option Blk} {nx : Nat} (h : HR c F M hp nx w) {cs : List AV} {vs : List Value} {cap et : Nat} (hv : RepML w F M cs (vs.take cs.length)) (h1 : ones cs = true)
    (hc : cs.length ≤ cap) (hm : cap ≤ maxLen) (hl : vs.length = cap) :
    ∃ M', HR c F M' (upd nx (some (.own et cs)) hp) (nx + 1) (w.alloc (.cells ⟨vs⟩ et)) ∧ Tr F M w F M' (w.alloc (.cells ⟨vs⟩ et)) ∧
      M' nx = some ⟨w.heap.size, 1, cap, et⟩ := by
  have key := h.grow none (m := ⟨w.heap.size, 1, cap, et⟩) (blk := .own et cs) (fun b hb _ => alloc_heap _ b hb) (by simp) (fun k hk => by cases hk) (.inl (Nat.le_refl _))
    (h.bel.alloc h.bel.size (.cells ⟨vs⟩ et)) (alloc_own (by omega)) fun t => ⟨⟨rfl, rfl⟩, ⟨hc, hm⟩, RepMC_new cs (vs.take cs.length) 0 (hv.tr t) h1 fun j v hj => ?_⟩
  · exact ⟨_, key.1, key.2, by simp⟩
  · rw [List.getElem?_take] at hj
    split at hj
    · exact alloc_cell vs et j v hj
    · cases hj

theorem ofV_nil {z : Value} (h : ofV z = .nil) : z = .slice none 0 0 := by
  cases z with
  | slice p n cp =>
    cases p with
    | none =>
      cases n with
      | zero =>
        cases cp with
        | zero => rfl
        | succ _ => unfold ofV at h; cases h
      | succ _ => unfold ofV at h; cases h
    | some _ => unfold ofV at h; cases h
  | agg cs => obtain ⟨cs⟩ := cs; unfold ofV at h; cases h
  | tuple cs => obtain ⟨cs⟩ := cs; unfold ofV at h; cases h
  | _ => unfold ofV at h; cases h

theorem RepML_nils : ∀ (n : Nat) (vs : List Value), vs.length = n → (∀ v ∈ vs, v = .slice none 0 0) → RepML w F M (List.replicate n .nil) vs
  | 0, vs, h, _ => by
      have := List.eq_nil_of_length_eq_zero h
      subst this; unfold RepML; rfl
  | n + 1, [], h, _ => by simp at h
  | n + 1, v :: vs, h, hv => by
      rw [List.replicate_succ]
      unfold RepML
      exact ⟨v, vs, rfl, by unfold RepM; exact hv v (by simp), RepML_nils n vs (by simpa using h) fun u hu => hv u (by simp [hu])⟩
theorem ones_nils : ∀ n, ones (List.replicate n .nil) = true
  | 0 => rfl
  | n + 1 => by rw [List.replicate_succ]; simp only [ones, one, ones_nils n]; rfl

theorem made_nil {n : Nat} : ∀ v ∈ (madeCells #[.slice none 0 0] n).toList, v = .slice none 0 0 := by
  intro v hv
  obtain ⟨j, hj⟩ := List.getElem?_of_mem hv
  have hlt : j < n := by
    rcases Nat.lt_or_ge j n with h | h
    · exact h
    · rw [List.getElem?_eq_none (by simp [size_madeCells]; omega)] at hj; cases hj
  have := made_get #[.slice none 0 0] 1 n j rfl (by omega) (by omega)
  rw [Nat.mul_one] at this
  rw [this] at hj
  simp [Nat.mod_one] at hj
  exact hj.symm

theorem op_makeSlice {t : TypeId} {x y : Operand} (ho : o.op = .makeSlice t x y) (hT : TOk P c.T) (h : Rel c N F M s a w) (hd : ∀ t, o.dst = some t → t < N) (hx : ∀ t, x = .tmp t → t < N) (hy : ∀ t, y = .tmp t → t < N)
    (hK : aMakeSlice c.T t (ev c.gl s x) (ev c.gl s y) s fun v s' => K (Ab.put o.dst v s')) : o.wpIn (Fw ro) 0 P a w (Post c N F M w K) Q := by
  have hx' := h.ev x hx
  have hy' := h.ev y hy
  generalize ev c.gl s x = ax at hx' hK
  generalize ev c.gl s y = ay at hy' hK
  unfold aMakeSlice at hK
  cases hsl : (look c.T t).bind fun i => i.sl with
  | none => rw [hsl] at hK; exact hK.elim
  | some et =>
    rw [hsl] at hK
    simp only at hK
    cases he : look c.T et with
    | none => rw [he] at hK; exact hK.elim
    | some e =>
      rw [he] at hK
      obtain ⟨et', ti, z, hu, hi, hz, hsz, hby, hzv, hzs⟩ := hT.elem (t := t) (e := e) (by rw [hsl]; exact he)
      have : et' = et := by
        cases hl : look c.T t with
        | none => simp [hl] at hsl
        | some i =>
          obtain ⟨_, d, _, _, hu', _, _, _, _, hsl', _⟩ := hT.parts hl
          rw [hl] at hsl
          rw [hsl' et hsl] at hu'
          rw [hu'] at hu; cases hu; rfl
      subst this
      cases ax with
      | int ik n =>
        cases ay with
        | int ik' cc =>
          unfold RepM at hx' hy'
          simp only at hK
          cases hesl : e.sl with
          | some est =>
            rw [hesl] at hK
            simp only at hK
            cases hev : e.zv with
            | nil =>
              rw [hev] at hK
              obtain ⟨h0, h1, h2, h3, hK⟩ := hK
              have hzn : z = .slice none 0 0 := ofV_nil (by rw [← hzv, hev])
              have hs1 : e.sz = 1 := by rw [← hzs, hzn]; rfl
              have hbytes : (ti.bytes : Int) * cc ≤ 281474976710656 := by rw [← hby, Int.mul_comm]; omega
              have h63 : cc ≤ 9223372036854775807 := by
                have : ((maxLen : Nat) : Int) = 9223372036854775807 := by simp [maxLen]
                omega
              have hr := run_make (P := P) (w := w) t et' ti z hu hi hz ik ik' n cc h0 h1 hbytes h63
              rw [← hsz] at hr
              rw [hs1, Nat.mul_one] at hr
              have hzc : z.cells = #[.slice none 0 0] := by rw [hzn]; rfl
              rw [hzc] at hr
              obtain ⟨M', g1, g2, g3⟩ := h.toHR.newOwn (cs := List.replicate n.toNat .nil) (vs := (madeCells #[.slice none 0 0] cc.toNat).toList) (cap := cc.toNat) (et := et')
                (RepML_nils _ _ (by simp [size_madeCells]; omega) (fun v hv => made_nil v (List.mem_of_mem_take hv))) (ones_nils _) (by simp; omega) (by omega) (by simp [size_madeCells])
              refine wp_next h hd g1 g2 (v := .slice (some ⟨w.heap.size, 0, none⟩) n.toNat cc.toNat) ?_ ?_ hK
              · simp [execOp, ho, hx', hy', hr]
              · unfold RepM
                exact ⟨_, g3, .inl ⟨by simp, by simp; omega⟩⟩
            | _ => rw [hev] at hK; exact hK.elim
          | none =>
          rw [hesl] at hK
          simp only [hzv] at hK
          obtain ⟨row, r1, r2, r3, hK⟩ := zero_row h.toHR hK
          rw [lenL_eq] at hK
          cases hb : and (Nat.ble 1 e.sz) (Nat.beq row.length e.sz) with
          | false => rw [hb] at hK; exact hK.elim
          | true =>
            rw [hb] at hK
            simp only [Bool.and_eq_true] at hb
            have hs1 := Nat.le_of_ble_eq_true hb.1
            have hs2 := Nat.eq_of_beq_eq_true hb.2
            obtain ⟨h0, h1, h2, h3, hK⟩ := hK
            have hbytes : (ti.bytes : Int) * cc ≤ 281474976710656 := by rw [← hby, Int.mul_comm]; omega
            have h63 : cc ≤ 9223372036854775807 := by
              have : ((maxLen : Nat) : Int) = 9223372036854775807 := by simp [maxLen]
              omega
            have hr := run_make (P := P) w t et' ti z hu hi hz ik ik' n cc h0 h1 hbytes h63
            rw [← hsz] at hr
            have hfl : (List.replicate n.toNat row).length = n.toNat := by simp
            have hrep := repl_rep (n := cc.toNat) r1 hs2 (show 0 < e.sz by omega)
            have hsub : RepDL w F (List.replicate n.toNat row).flatten ((madeCells z.cells (cc.toNat * e.sz)).toList.take (n.toNat * e.sz)) := by
              have := hrep.take (n.toNat * e.sz)
              have e1 : (List.replicate cc.toNat row).flatten.take (n.toNat * e.sz) = (List.replicate n.toNat row).flatten := by
                rw [show cc.toNat = n.toNat + (cc.toNat - n.toNat) by omega, ← List.replicate_append_replicate, List.flatten_append]
                have hl2 : (List.replicate n.toNat row).flatten.length = n.toNat * e.sz := by
                  have := flat_len (sz := e.sz) (List.replicate n.toNat row) (fun q hq => by rw [List.eq_of_mem_replicate hq]; exact hs2)
                  simpa using this
                rw [← hl2, List.take_left]
              rwa [e1] at this
            obtain ⟨M', g1, g2, g3⟩ := h.toHR.newArr (rows := List.replicate n.toNat row) (vs := (madeCells z.cells (cc.toNat * e.sz)).toList) (sz := e.sz) (cap := cc.toNat) (et := et')
              (by rw [hfl]; exact hsub) (fun x hx => by
                rw [List.mem_flatten] at hx
                obtain ⟨l, hl, hx⟩ := hx
                rw [List.eq_of_mem_replicate hl] at hx
                exact r2 x hx) (fun q hq => by rw [List.eq_of_mem_replicate hq]; exact hs2) (by omega) (by rw [hfl]; omega) (by omega) (by simp [size_madeCells])
            refine wp_next h hd g1 g2 (v := .slice (some ⟨w.heap.size, 0, none⟩) n.toNat cc.toNat) ?_ ?_ hK
            · simp [execOp, ho, hx', hy', hr]
            · unfold RepM
              exact ⟨_, g3, .inl ⟨by simp, by simp; omega⟩⟩
        | _ => exact hK.elim
      | _ => exact hK.elim
end
end Ab
