import Derived.Test.YtbcgkonhkoopnaaGreatXOp2
/-!
Soundness of addresses, slices, and what makes memory.
-/
namespace Ab
open Go Go.RowKit

section
variable {c : Ctx} {ro : Option Nat} {N : Nat} {F F' : Foot} {M M' : Nat → Option MB} {s : St} {a : Act} {w w' : World} {P : Program} {o : Oper} {K : St → Prop} {Q : Exit → Act → World → Prop}

theorem op_fieldAddr {t : TypeId} {x : Operand} {f : Nat} (ho : o.op = .fieldAddr t x f) (hT : TOk P c.T) (h : Rel c N F M s a w) (hd : ∀ t, o.dst = some t → t < N) (hx : ∀ t, x = .tmp t → t < N)
    (hK : aFieldAddr c.T t (ev c.gl s x) f fun v => K (Ab.put o.dst v s)) : o.wpIn (Fw ro) 0 P a w (Post c N F M w K) Q := by
  have hx' := h.ev x hx
  generalize ev c.gl s x = ax at hx' hK
  unfold aFieldAddr at hK
  cases hl : look c.T t with
  | none => simp [hl] at hK
  | some i =>
    obtain ⟨ti, d, z, hi, hu, hz, _, _, _, _, _, _, hlay, hne, _⟩ := hT.parts hl
    simp only [hl, Option.bind_some, nth_eq] at hK
    cases hf : i.lay[f]? with
    | none => rw [hf] at hK; exact hK.elim
    | some p =>
      obtain ⟨off, sz⟩ := p
      cases sz with
      | zero => rw [hf] at hK; exact hK.elim
      | succ sz =>
        rw [hf] at hK
        simp only at hK
        obtain ⟨fs, rfl⟩ := hne (fun e => by rw [e] at hf; simp at hf)
        rw [hlay fs rfl, List.getElem?_map] at hf
        cases hfs : fs.toList[f]? with
        | none => rw [hfs] at hf; cases hf
        | some fld =>
          rw [hfs] at hf
          simp only [Option.map_some, Option.some.injEq, Prod.mk.injEq] at hf
          have hfs' : fs[f]? = some fld := by simpa using hfs
          have hsz : ∃ ti', P.info? fld.type = some ti' ∧ ti'.size = sz + 1 := by
            have := hf.2
            unfold Program.cellsOf at this
            cases hq : P.info? fld.type with
            | none => rw [hq] at this; simp at this
            | some ti' => rw [hq] at this; exact ⟨ti', rfl, by simpa using this⟩
          obtain ⟨ti', hi', hs'⟩ := hsz
          have fin : ∀ (b oo : Nat) (av : AV), a.eval x = .pointer (some ⟨b, oo, none⟩) → RepM w F M av (.pointer (some ⟨b, oo + off, none⟩)) → K (Ab.put o.dst av s) → o.wpIn (Fw ro) 0 P a w (Post c N F M w K) Q := by
            intro b oo av hv hr hK
            refine wp_pure h hd ?_ hr hK
            simp [execOp, ho, hv, Instr.fieldAt, run_underlying hu, hfs', Instr.sureAddr, fieldPlace, Go.sizeOf, typeInfo, hi', hs', hf.1, Addr.add_lit]
          cases ax with
          | bp k oo =>
            unfold RepM at hx'
            obtain ⟨m, h1, h2⟩ := hx'
            exact fin _ _ (.bp k (oo + off)) h2 (by unfold RepM; exact ⟨m, h1, rfl⟩) hK
          | ap k r oo =>
            unfold RepM at hx'
            obtain ⟨m, h1, h2⟩ := hx'
            refine fin _ _ (.ap k r (oo + off)) h2 ?_ hK
            unfold RepM
            exact ⟨m, h1, by rw [Nat.add_assoc]⟩
          | er row oo =>
            unfold RepM at hx'
            obtain ⟨b, of', h1, h2, h3⟩ := hx'
            refine fin _ _ (.er row (oo + off)) h1 ?_ hK
            unfold RepM
            exact ⟨b, of', by rw [Nat.add_assoc], h2, h3⟩
          | _ => exact hK.elim

theorem look_bind {T : List (Nat × TyI)} {t : TypeId} {e : TyI} (h : ((look T t).bind fun i => i.sl).bind (look T) = some e) : ∃ i et, look T t = some i ∧ i.sl = some et ∧ look T et = some e := by
  cases hl : look T t with
  | none => simp [hl] at h
  | some i =>
    simp only [hl, Option.bind_some] at h
    cases hs : i.sl with
    | none => simp [hs] at h
    | some et => exact ⟨i, et, rfl, hs, by simpa [hs] using h⟩

theorem TOk.elem (hT : TOk P c.T) {t : TypeId} {e : TyI} (h : ((look c.T t).bind fun i => i.sl).bind (look c.T) = some e) :
    ∃ et ti z, P.underlying t = some (.slice et) ∧ P.info? et = some ti ∧ ti.zero = some z ∧ e.sz = ti.size ∧ e.by_ = ti.bytes ∧ e.zv = ofV z ∧ z.cells.size = e.sz := by
  obtain ⟨i, et, h1, h2, h3⟩ := look_bind h
  obtain ⟨_, d, _, _, hu, _, _, _, _, hsl, _⟩ := hT.parts h1
  obtain ⟨ti, _, z, hi, _, hz, e1, e2, e3, _, _, _, _, _, _, _, _, _, e4⟩ := hT.parts h3
  exact ⟨et, ti, z, by rw [hu, hsl et h2], hi, hz, e1, e2, e3, by rw [e4, e1]⟩

theorem op_indexAddr {lim : Option (Nat → Bool)} {t : TypeId} {x y : Operand} (ho : o.op = .indexAddr t x y) (hT : TOk P c.T) (h : Rel c N F M s a w) (hd : ∀ t, o.dst = some t → t < N) (hx : ∀ t, x = .tmp t → t < N) (hy : ∀ t, y = .tmp t → t < N)
    (hK : aIndexAddr c.T lim t (ev c.gl s x) (ev c.gl s y) s fun v => K (Ab.put o.dst v s)) : o.wpIn (Fw ro) 0 P a w (Post c N F M w K) Q := by
  have hx' := h.ev x hx
  have hy' := h.ev y hy
  generalize ev c.gl s x = ax at hx' hK
  generalize ev c.gl s y = ay at hy' hK
  unfold aIndexAddr at hK
  cases hl : look c.T t with
  | none => rw [hl] at hK; exact hK.elim
  | some ty =>
    rw [hl] at hK
    simp only at hK
    obtain ⟨ti, d, z, hi, hu, hz, _, _, _, hsl, _, _, _, _, harr, _⟩ := hT.parts hl
    cases ay with
    | int ik n =>
      unfold RepM at hy'
      simp only at hK
      have elem : ∀ e, ty.sl.bind (look c.T) = some e → ∃ et te, P.underlying t = some (.slice et) ∧ P.info? et = some te ∧ e.sz = te.size := by
        intro e he
        have : ((look c.T t).bind fun i => i.sl).bind (look c.T) = some e := by simpa [hl] using he
        obtain ⟨et, te, _, h1, h2, _, h3, _⟩ := hT.elem this
        exact ⟨et, te, h1, h2, h3⟩
      have arr : ∀ n' sz, ty.arr = some (n', sz) → ∃ et, P.underlying t = some (.array n' et) ∧ sz = P.cellsOf et := by
        intro n' sz ha
        obtain ⟨et, h1, h2⟩ := harr n' sz ha
        exact ⟨et, by rw [hu, h1], h2⟩
      have fin : ∀ (b oo : Nat) (f : Nat → AV), a.eval x = .pointer (some ⟨b, oo, none⟩) → (∀ q, RepM w F M (f q) (.pointer (some ⟨b, oo + q, none⟩))) →
          (∃ n' sz, ty.arr = some (n', Nat.succ sz) ∧ 0 ≤ n ∧ n < (n' : Int) ∧ K (Ab.put o.dst (f (n.toNat * Nat.succ sz)) s)) → o.wpIn (Fw ro) 0 P a w (Post c N F M w K) Q := by
        rintro b oo f hv hr ⟨n', sz, ha, h0, hlt, hK⟩
        obtain ⟨et, h1, h2⟩ := arr n' _ ha
        have hsz : ∃ te, P.info? et = some te ∧ te.size = sz + 1 := by
          unfold Program.cellsOf at h2
          cases hq : P.info? et with
          | none => rw [hq] at h2; simp at h2
          | some te => rw [hq] at h2; exact ⟨te, rfl, by simpa using h2.symm⟩
        obtain ⟨te, h3, h4⟩ := hsz
        refine wp_pure h hd ?_ (hr _) hK
        simp [execOp, ho, hv, hy', Instr.indexAt, asIntOf, run_underlying h1, h0, hlt, Go.sizeOf, typeInfo, h3, h4, Addr.add_lit, Instr.sureAddr]
      cases ax with
      | sl rows =>
        simp only at hK
        cases he : ty.sl.bind (look c.T) with
        | none => rw [he] at hK; exact hK.elim
        | some e =>
          rw [he] at hK
          obtain ⟨h0, row, hrow, hK⟩ := hK
          rw [lenL_eq] at hK
          cases hb : Nat.beq row.length e.sz with
          | false => rw [hb] at hK; exact hK.elim
          | true =>
            rw [hb] at hK
            have hb := Nat.eq_of_beq_eq_true hb
            obtain ⟨et, te, h1, h2, h3⟩ := elem e he
            unfold RepM RepD at hx'
            obtain ⟨p, cp, h4, h5, h6, h7⟩ := hx'
            rcases h7 with h7 | ⟨b, off, sz, h7, h8, h9⟩
            · rw [h7] at hrow; simp at hrow
            · have hr := RepR.at rows off n.toNat row h9 hrow
              have hlt : n.toNat < rows.length := by
                rcases Nat.lt_or_ge n.toNat rows.length with h | h
                · exact h
                · rw [List.getElem?_eq_none h] at hrow; cases hrow
              have hlt' : n < (rows.length : Int) := by omega
              refine wp_pure h hd (v := .pointer (some ⟨b, off + n.toNat * sz, none⟩)) ?_ ?_ hK
              · have : te.size = sz := by rw [← h3, ← hb, hr.1]
                simp [execOp, ho, h4, h7, hy', Instr.indexAt, asIntOf, run_underlying h1, h0, hlt', Go.sizeOf, typeInfo, h2, this, Addr.add_lit]
              · unfold RepM; exact ⟨b, off + n.toNat * sz, rfl, h8, hr.2⟩
      | ms k off n' =>
        simp only at hK
        cases he : ty.sl.bind (look c.T) with
        | none => rw [he] at hK; exact hK.elim
        | some e =>
          rw [he] at hK
          have hK := inLim_out hK
          cases hb : s.hp k with
          | none => rw [hb] at hK; exact hK.elim
          | some blk =>
            cases blk with
            | res => first | exact hK.elim | (rw [hb] at hK; exact hK.elim) | exact h.elim | (rw [hb] at h; exact h.elim) | (rw [hb] at hK2; exact hK2.elim) | (rw [hb] at hK; simp only at hK; exact hK.elim) | exact Sel.no | exact Gives.none | exact Give2.none | exact toDB_ok hp (.ms k off len) | (have := Sel.toD (hp := hp) (.ms k off len); exact this) | exact .inl rfl | (cases hK; done) | (cases h; done)
            | box cs =>
              rw [hb] at hK
              simp only at hK
              cases hq : Nat.beq 1 e.sz with
              | false => rw [hq] at hK; exact hK.elim
              | true =>
                rw [hq] at hK
                obtain ⟨h0, hlt, hK⟩ := hK
                have hq := Nat.eq_of_beq_eq_true hq
                obtain ⟨et, te, h1, h2, h3⟩ := elem e he
                obtain ⟨m, g1, _, _, _, g2, _⟩ := h.box k cs hb
                unfold RepM at hx'
                obtain ⟨m', h4, h5⟩ := hx'
                rw [g1] at h4; cases h4
                rcases h5 with ⟨h5, _⟩ | ⟨h5, _⟩
                · refine wp_pure h hd (v := .pointer (some ⟨m.b, off * m.sz + n.toNat * m.sz, none⟩)) ?_ ?_ hK
                  · have : te.size = m.sz := by rw [← h3, ← hq, ← g2.1]
                    simp [execOp, ho, h5, hy', Instr.indexAt, asIntOf, run_underlying h1, h0, hlt, Go.sizeOf, typeInfo, h2, this, Addr.add_lit]
                  · unfold RepM; exact ⟨m, g1, by rw [g2.1, Nat.mul_one, Nat.mul_one]⟩
                · omega
            | own et' cs =>
              rw [hb] at hK
              simp only at hK
              cases hq : Nat.beq 1 e.sz with
              | false => rw [hq] at hK; exact hK.elim
              | true =>
                rw [hq] at hK
                obtain ⟨h0, hlt, hK⟩ := hK
                have hq := Nat.eq_of_beq_eq_true hq
                obtain ⟨et, te, h1, h2, h3⟩ := elem e he
                obtain ⟨m, g1, g2, _⟩ := h.own k et' cs hb
                unfold RepM at hx'
                obtain ⟨m', h4, h5⟩ := hx'
                rw [g1] at h4; cases h4
                rcases h5 with ⟨h5, _⟩ | ⟨h5, _⟩
                · refine wp_pure h hd (v := .pointer (some ⟨m.b, off * m.sz + n.toNat * m.sz, none⟩)) ?_ ?_ hK
                  · have : te.size = m.sz := by rw [← h3, ← hq, ← g2.2]
                    simp [execOp, ho, h5, hy', Instr.indexAt, asIntOf, run_underlying h1, h0, hlt, Go.sizeOf, typeInfo, h2, this, Addr.add_lit]
                  · unfold RepM; exact ⟨m, g1, by rw [g2.2, Nat.mul_one, Nat.mul_one]⟩
                · omega
            | arr sz rows lv =>
              rw [hb] at hK
              simp only at hK
              cases hq : Nat.beq sz.2 e.sz with
              | false => rw [hq] at hK; exact hK.elim
              | true =>
                rw [hq] at hK
                obtain ⟨h0, hlt, hK⟩ := hK
                have hq := Nat.eq_of_beq_eq_true hq
                obtain ⟨et, te, h1, h2, h3⟩ := elem e he
                obtain ⟨m, g1, g2, _⟩ := h.arr k sz rows lv hb
                unfold RepM at hx'
                obtain ⟨m', h4, h5⟩ := hx'
                rw [g1] at h4; cases h4
                rcases h5 with ⟨h5, _⟩ | ⟨h5, _⟩
                · refine wp_pure h hd (v := .pointer (some ⟨m.b, off * m.sz + n.toNat * m.sz, none⟩)) ?_ ?_ hK
                  · have : te.size = m.sz := by rw [← h3, ← hq, ← g2]
                    simp [execOp, ho, h5, hy', Instr.indexAt, asIntOf, run_underlying h1, h0, hlt, Go.sizeOf, typeInfo, h2, this, Addr.add_lit]
                  · unfold RepM; exact ⟨m, g1, by rw [Nat.add_mul]; rfl⟩
                · omega
      | bp k oo =>
        unfold RepM at hx'
        obtain ⟨m, h3, h4⟩ := hx'
        exact fin _ _ (fun q => .bp k (oo + q)) h4 (fun q => by unfold RepM; exact ⟨m, h3, rfl⟩) (by
          simp only at hK
          split at hK
          · rename_i n' sz ha
            exact ⟨n', sz, ha, hK⟩
          · exact hK.elim)
      | ap k r oo =>
        unfold RepM at hx'
        obtain ⟨m, h3, h4⟩ := hx'
        exact fin _ _ (fun q => .ap k r (oo + q)) h4 (fun q => by unfold RepM; exact ⟨m, h3, by rw [Nat.add_assoc]⟩) (by
          simp only at hK
          split at hK
          · rename_i n' sz ha
            exact ⟨n', sz, ha, hK⟩
          · exact hK.elim)
      | er row oo =>
        unfold RepM at hx'
        obtain ⟨b, off, h3, h4, h5⟩ := hx'
        exact fin _ _ (fun q => .er row (oo + q)) h3 (fun q => by unfold RepM; exact ⟨b, off, by rw [Nat.add_assoc], h4, h5⟩) (by
          simp only at hK
          split at hK
          · rename_i n' sz ha
            exact ⟨n', sz, ha, hK⟩
          · exact hK.elim)
      | _ => exact hK.elim
    | _ => exact hK.elim

end
end Ab
