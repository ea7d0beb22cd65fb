import Derived.Test.YtbcgkonhkoopnaaGreatXOp6
/-!
Soundness of composite values.
-/
namespace Ab
open Go Go.RowKit

section
variable {c : Ctx} {ro : Option Nat} {N : Nat} {F F' : Foot} {M M' : Nat → Option MB} {s : St} {a : Act} {w w' : World} {P : Program} {o : Oper} {K : St → Prop} {Q : Exit → Act → World → Prop}

theorem fold_list (off : Nat) : ∀ (vs : List Value) (k : Nat) (cur : Array Value), off + k + vs.length ≤ cur.size →
    ((vs.zipIdx k).foldl (fun cs p => cs.setIfInBounds (off + p.2) p.1) cur).toList = cur.toList.take (off + k) ++ vs ++ cur.toList.drop (off + k + vs.length)
  | [], k, cur, _ => by simp
  | v :: vs, k, cur, h => by
      simp only [List.length_cons] at h
      rw [List.zipIdx_cons, List.foldl_cons, fold_list off vs (k + 1) _ (by simp; omega)]
      apply List.ext_getElem?
      intro j
      have h1 := splice_get (cur.setIfInBounds (off + k) v).toList vs (off + (k + 1)) j (by simp; omega)
      have h2 := splice_get cur.toList (v :: vs) (off + k) j (by simp; omega)
      rw [h1, h2]
      simp only [Array.toList_setIfInBounds, List.getElem?_set, List.length_cons, Array.length_toList]
      by_cases c1 : j < off + k
      · rw [if_pos (by omega), if_pos c1, if_neg (by omega)]
      · rw [if_neg c1]
        by_cases c2 : j = off + k
        · subst c2
          rw [if_pos (by omega), if_pos rfl, if_pos (by omega), if_pos (by omega)]; simp
        · rw [if_neg (by omega)]
          by_cases c3 : j < off + k + (vs.length + 1)
          · rw [if_pos (by omega), if_pos c3, show j - (off + k) = (j - (off + (k + 1))) + 1 by omega]; simp
          · rw [if_neg (by omega), if_neg (by omega), if_neg (by omega)]

theorem fold_arr (off : Nat) (vs cur : Array Value) (h : off + vs.size ≤ cur.size) :
    (vs.zipIdx.foldl (fun cs (x : Value × Nat) => cs.setIfInBounds (off + x.2) x.1) cur).toList = cur.toList.take off ++ vs.toList ++ cur.toList.drop (off + vs.size) := by
  rw [← Array.foldl_toList, Array.toList_zipIdx]
  have := fold_list off vs.toList 0 cur (by simpa using h)
  simpa using this

theorem RepML_of : ∀ (l : List AV) (vs : List Value), l.length = vs.length → (∀ (j : Nat) (x : AV) (v : Value), l[j]? = some x → vs[j]? = some v → RepM w F M x v) → RepML w F M l vs
  | [], vs, h, _ => by
      unfold RepML
      exact List.eq_nil_of_length_eq_zero (by simpa using h.symm)
  | x :: l, [], h, _ => by simp at h
  | x :: l, v :: vs, h, hp => by
      unfold RepML
      exact ⟨v, vs, rfl, hp 0 x v rfl rfl, RepML_of l vs (by simpa using h) fun j y u hy hu => hp (j + 1) y u (by simpa using hy) (by simpa using hu)⟩
theorem RepML.app {l m : List AV} {vs us : List Value} (h : RepML w F M l vs) (g : RepML w F M m us) : RepML w F M (l ++ m) (vs ++ us) := by
  refine RepML_of _ _ (by simp [RepML.len _ _ h, RepML.len _ _ g]) fun j x v hx hv => ?_
  have hl := RepML.len _ _ h
  by_cases hj : j < l.length
  · rw [List.getElem?_append_left hj] at hx
    rw [List.getElem?_append_left (by omega)] at hv
    obtain ⟨u, h1, h2⟩ := RepML.get _ _ _ _ h hx
    rw [hv] at h1; cases h1; exact h2
  · rw [List.getElem?_append_right (by omega)] at hx
    rw [List.getElem?_append_right (by omega), hl] at hv
    obtain ⟨u, h1, h2⟩ := RepML.get _ _ _ _ g hx
    rw [hv] at h1; cases h1; exact h2
theorem RepML.take {l : List AV} {vs : List Value} (n : Nat) (h : RepML w F M l vs) : RepML w F M (l.take n) (vs.take n) := by
  refine RepML_of _ _ (by simp [RepML.len _ _ h]) fun j x v hx hv => ?_
  rw [List.getElem?_take] at hx hv
  split at hx
  · rename_i hj
    rw [if_pos hj] at hv
    obtain ⟨u, h1, h2⟩ := RepML.get _ _ _ _ h hx
    rw [hv] at h1; cases h1; exact h2
  · cases hx
theorem RepML.drop {l : List AV} {vs : List Value} (n : Nat) (h : RepML w F M l vs) : RepML w F M (l.drop n) (vs.drop n) := by
  refine RepML_of _ _ (by simp [RepML.len _ _ h]) fun j x v hx hv => ?_
  rw [List.getElem?_drop] at hx hv
  obtain ⟨u, h1, h2⟩ := RepML.get _ _ _ _ h hx
  rw [hv] at h1; cases h1; exact h2

/-- a struct's parts -/
theorem fill_struct (lay : List (Nat × Nat)) : ∀ (ps : List (Nat × Operand)) (cs : List AV) (cur : Array Value), (∀ p ∈ ps, ∀ t, p.2 = .tmp t → t < N) → Rel c N F M s a w → RepML w F M cs cur.toList →
    ∀ {K : List AV → Prop}, fillA lay (evParts c.gl s ps) cs K →
    ∃ cs' cur', Instr.fill (fun i => lay[i]?) cur (ps.map fun p => (p.1, a.eval p.2)) = some cur' ∧ RepML w F M cs' cur'.toList ∧ K cs'
  | [], cs, cur, _, h, hr, K, hK => by
      unfold evParts fillA at hK
      rw [forceL_eq] at hK
      exact ⟨cs, cur, rfl, hr, hK⟩
  | (i, x) :: ps, cs, cur, hx, h, hr, K, hK => by
      unfold evParts fillA at hK
      rw [nth_eq] at hK
      cases hl : lay[i]? with
      | none => rw [hl] at hK; exact hK.elim
      | some p =>
        obtain ⟨off, size⟩ := p
        rw [hl] at hK
        simp only [lenL_eq, takeL_eq, dropL_eq, appL_eq] at hK
        cases hb : and (and (Nat.beq (cells (ev c.gl s x)).length size) (Nat.ble (off + size) cs.length)) (ones (cells (ev c.gl s x))) with
        | false => rw [hb] at hK; exact hK.elim
        | true =>
          rw [hb] at hK
          simp only [Bool.and_eq_true] at hb
          have h1 := Nat.eq_of_beq_eq_true hb.1.1
          have h2 := Nat.le_of_ble_eq_true hb.1.2
          have hv := h.ev x (hx (i, x) (by simp))
          have hcv : RepML w F M (cells (ev c.gl s x)) (a.eval x).cells.toList := (cells_rep hb.2 hv).1
          have hl1 := RepML.len _ _ hcv
          have hl2 := RepML.len _ _ hr
          have hfold := fold_arr off (a.eval x).cells cur (by simp at hl1 hl2; omega)
          have hr' : RepML w F M (cs.take off ++ (cells (ev c.gl s x) ++ cs.drop (off + size))) ((a.eval x).cells.zipIdx.foldl (fun cs (x : Value × Nat) => cs.setIfInBounds (off + x.2) x.1) cur).toList := by
            rw [hfold, ← List.append_assoc]
            have e : (a.eval x).cells.size = size := by simp at hl1; omega
            rw [e]
            exact ((hr.take off).app hcv).app (hr.drop (off + size))
          obtain ⟨cs', cur', k1, k2, k3⟩ := fill_struct lay ps _ _ (fun p hp => hx p (by simp [hp])) h hr' hK
          refine ⟨cs', cur', ?_, k2, k3⟩
          rw [List.map_cons, Instr.fill, hl]
          simp only
          have e1 : (a.eval x).cells.size = size := by simp at hl1; omega
          have e2 : ¬ (off + (a.eval x).cells.size > cur.size) := by simp at hl1 hl2; omega
          simp only [e1, ne_eq, not_true_eq_false, decide_false, Bool.false_or]
          rw [if_neg (by rw [e1] at e2; simpa using e2)]
          exact k1

theorem run_places (fs : Array Field) (h : ∀ f ∈ fs.toList, (P.info? f.type).isSome = true) :
    (fs.mapM (m := Sem) fun f => Prod.mk f.offset <$> Go.sizeOf f.type).run P w = .ok ((fs.toList.map fun f => (f.offset, P.cellsOf f.type)).toArray) w := by
  have key : ∀ (l : List Field), (∀ f ∈ l, (P.info? f.type).isSome = true) → (l.mapM (m := Sem) fun f => Prod.mk f.offset <$> Go.sizeOf f.type).run P w = .ok (l.map fun f => (f.offset, P.cellsOf f.type)) w := by
    intro l
    induction l with
    | nil => intro _; rfl
    | cons f l ih =>
      intro hl
      obtain ⟨ti, hi⟩ := Option.isSome_iff_exists.1 (hl f (by simp))
      have hs : (Go.sizeOf f.type).run P w = .ok (P.cellsOf f.type) w := by simp [Go.sizeOf, typeInfo, hi, Program.cellsOf]
      have := ih (fun g hg => hl g (by simp [hg]))
      simp [List.mapM_cons, hs, this]
  have e : fs.mapM (m := Sem) (fun f => Prod.mk f.offset <$> Go.sizeOf f.type) = List.toArray <$> fs.toList.mapM (m := Sem) (fun f => Prod.mk f.offset <$> Go.sizeOf f.type) := by
    rw [Array.mapM_eq_mapM_toList]
  rw [e]
  simp [key fs.toList h]

theorem op_field {t : TypeId} {x : Operand} {f : Nat} (ho : o.op = .field t x f) (hT : TOk P c.T) (h : Rel c N F M s a w) (hd : ∀ t, o.dst = some t → t < N) (hx : ∀ t, x = .tmp t → t < N)
    (hK : aField c.T t (ev c.gl s x) f fun v => K (Ab.put o.dst v s)) : o.wpIn (Fw ro) 0 P a w (Post c N F M w K) Q := by
  have hx' := h.ev x hx
  generalize ev c.gl s x = ax at hx' hK
  unfold aField at hK
  cases hl : look c.T t with
  | none => rw [hl] at hK; exact hK.elim
  | some i =>
    rw [hl] at hK
    simp only at hK
    cases hf : i.fo with
    | false => rw [hf] at hK; exact hK.elim
    | true =>
      rw [hf] at hK
      simp only [nth_eq] at hK
      cases hla : i.lay[f]? with
      | none => rw [hla] at hK; exact hK.elim
      | some p =>
        obtain ⟨off, size⟩ := p
        rw [hla] at hK
        simp only at hK
        cases hfa : i.fag[f]? with
        | none => rw [hfa] at hK; exact hK.elim
        | some ag =>
          rw [hfa] at hK
          simp only at hK
          obtain ⟨ti, d, z, hi, hu, hz, _, _, hzv, _, _, _, hlay, hne, _, _, _, hfo, _⟩ := hT.parts hl
          obtain ⟨fs, rfl⟩ := hne (by intro e; rw [e] at hla; simp at hla)
          have hlay := hlay fs rfl
          rw [hlay] at hla
          have hfag : i.fag = (match fs.toList.all (fun f => (P.underlying f.type).isSome) with | true => fs.toList.map fun f => isAggT P f.type | false => []) := by
            have h := hT t i hl
            unfold tyOf at h
            rw [hi, hu] at h
            simp only [hz] at h
            cases hq : Nat.beq z.cells.size ti.size with
            | false => rw [hq] at h; cases h
            | true =>
              rw [hq] at h
              simp only [cond_true, Option.some.injEq] at h
              have h2 := congrArg TyI.fag h
              exact h2.symm
          rw [hfag] at hfa
          cases hall : fs.toList.all (fun f => (P.underlying f.type).isSome) with
          | false => rw [hall] at hfa; simp at hfa
          | true =>
          rw [hall] at hfa
          simp only [List.getElem?_map] at hla hfa
          cases hg : fs.toList[f]? with
          | none => rw [hg] at hla; cases hla
          | some fd =>
            rw [hg] at hla hfa
            simp only [Option.map_some, Option.some.injEq, Prod.mk.injEq] at hla hfa
            obtain ⟨rfl, rfl⟩ := hla
            have hund := (List.all_eq_true.1 hall) fd (List.mem_of_getElem? hg)
            have hsome := hfo fs rfl hf fd (List.mem_of_getElem? hg)
            obtain ⟨te, hte⟩ := Option.isSome_iff_exists.1 hsome
            have hcs : P.cellsOf fd.type = te.size := by simp [Program.cellsOf, hte]
            have hfd : fs[f]? = some fd := by simpa using hg
            cases ax with
            | agg cs =>
              unfold RepM at hx'
              obtain ⟨vs, hv, hr⟩ := hx'
              have hrun : ∀ v, (part fd.type ⟨vs⟩ fd.offset).run P w = .ok v w → (execOp a.eval o).run P w = .ok (.value v) w := by
                intro v hp
                simp [execOp, ho, hv, Instr.field, run_underlying hu, hfd, asAgg, hp, Result.andThen]
              cases ag with
              | false =>
                simp only [rd, nth_eq] at hK
                cases hc : cs[fd.offset]? with
                | none => rw [hc] at hK; exact hK.elim
                | some av =>
                  rw [hc] at hK
                  simp only [force_eq] at hK
                  obtain ⟨v, h1, h2⟩ := RepML.get _ _ _ _ hr hc
                  refine wp_pure h hd (hrun v ?_) h2 hK
                  unfold isAggT at hfa
                  unfold part isAgg
                  cases hd' : P.underlying fd.type with
                  | none => rw [hd'] at hund; simp at hund
                  | some d => rw [hd'] at hfa; cases d <;> first | (cases hfa; done) | simp [run_underlying hd', h1]
              | true =>
                simp only [rd, lenL_eq, takeL_eq, dropL_eq] at hK
                cases hle : Nat.ble (fd.offset + P.cellsOf fd.type) cs.length with
                | false => rw [hle] at hK; exact hK.elim
                | true =>
                  rw [hle] at hK
                  simp only [forceL_eq] at hK
                  refine wp_pure h hd (hrun (.agg ⟨(vs.drop fd.offset).take (P.cellsOf fd.type)⟩) ?_) ?_ hK
                  · unfold isAggT at hfa
                    unfold part isAgg
                    have he : (⟨vs⟩ : Array Value).extract fd.offset (fd.offset + te.size) = ⟨(vs.drop fd.offset).take te.size⟩ := by
                      apply Array.ext'
                      simp
                    cases hd' : P.underlying fd.type with
                    | none => rw [hd'] at hund; simp at hund
                    | some d => rw [hd'] at hfa; cases d <;> first | (cases hfa; done) | simp [run_underlying hd', Go.sizeOf, typeInfo, hte, hcs]
                  · unfold RepM
                    exact ⟨_, rfl, (hr.drop _).take _⟩
            | _ => exact hK.elim

theorem op_index {t : TypeId} {x y : Operand} (ho : o.op = .index t x y) (hT : TOk P c.T) (h : Rel c N F M s a w) (hd : ∀ t, o.dst = some t → t < N) (hx : ∀ t, x = .tmp t → t < N) (hy : ∀ t, y = .tmp t → t < N)
    (hK : aIndex c.T t (ev c.gl s x) (ev c.gl s y) fun v => K (Ab.put o.dst v s)) : o.wpIn (Fw ro) 0 P a w (Post c N F M w K) Q := by
  have hx' := h.ev x hx
  have hy' := h.ev y hy
  generalize ev c.gl s x = ax at hx' hK
  generalize ev c.gl s y = ay at hy' hK
  unfold aIndex at hK
  cases hl : look c.T t with
  | none => rw [hl] at hK; exact hK.elim
  | some ty =>
    rw [hl] at hK
    simp only at hK
    cases harr : ty.arr with
    | none => rw [harr] at hK; exact hK.elim
    | some p =>
      obtain ⟨n, sz⟩ := p
      rw [harr] at hK
      simp only at hK
      cases hae : ty.ael with
      | none => rw [hae] at hK; exact hK.elim
      | some et =>
        rw [hae] at hK
        simp only [Option.bind_some] at hK
        cases hle : look c.T et with
        | none => rw [hle] at hK; exact hK.elim
        | some e =>
          rw [hle] at hK
          simp only at hK
          cases hb : and (Nat.beq e.sz 1) (not e.ag) with
          | false =>
            rw [hb] at hK
            simp only at hK
            cases hag0 : e.ag with
            | false => rw [hag0] at hK; exact hK.elim
            | true =>
              rw [hag0] at hK
              obtain ⟨_, d, _, _, hu, _, _, _, _, _, _, _, _, _, ha, _⟩ := hT.parts hl
              obtain ⟨e', hd', _⟩ := ha n sz harr
              have hee : e' = et := by
                have h := hT t ty hl
                unfold tyOf at h
                split at h
                · rename_i ti d' e1 e2
                  split at h
                  · rename_i z e3
                    rw [hu] at e2
                    cases e2
                    cases hq : Nat.beq z.cells.size ti.size with
                    | false => rw [hq] at h; cases h
                    | true =>
                      rw [hq] at h
                      simp only [cond_true, Option.some.injEq] at h
                      subst h
                      subst hd'
                      simpa using hae
                  · cases h
                · cases h
              subst hee
              obtain ⟨ti, d2, z2, hi, hu2, _, hsz, _, _, _, hag, _⟩ := hT.parts hle
              have hag := hag hag0
              cases ax with
              | agg cs =>
                cases ay with
                | int ik i =>
                  obtain ⟨h0, hlt, hK⟩ := hK
                  simp only [rd, lenL_eq, takeL_eq, dropL_eq] at hK
                  cases hle2 : Nat.ble (i.toNat * e.sz + e.sz) cs.length with
                  | false => rw [hle2] at hK; exact hK.elim
                  | true =>
                    rw [hle2] at hK
                    simp only [forceL_eq] at hK
                    unfold RepM at hx' hy'
                    obtain ⟨vs, hx', hvs⟩ := hx'
                    have hia : (isAgg e').run P w = .ok true w := by
                      rcases hag with ⟨fs, rfl⟩ | ⟨n, e, rfl⟩ <;> simp [isAgg, run_underlying hu2]
                    have hex : (⟨vs⟩ : Array Value).extract (i.toNat * ti.size) (i.toNat * ti.size + ti.size) = ⟨(vs.drop (i.toNat * ti.size)).take ti.size⟩ := by
                      apply Array.ext'
                      simp
                    refine wp_pure h hd (v := .agg ⟨(vs.drop (i.toNat * ti.size)).take ti.size⟩) ?_ ?_ hK
                    · rw [hd'] at hu
                      simp [execOp, ho, hx', hy', Instr.index, asIntOf, run_underlying hu, h0, hlt, Go.sizeOf, typeInfo, hi, part, hia, Result.andThen]
                    · unfold RepM
                      rw [hsz]
                      exact ⟨_, rfl, (hvs.drop _).take _⟩
                | _ => exact hK.elim
              | _ => exact hK.elim
          | true =>
            rw [hb] at hK
            simp only [Bool.and_eq_true, Bool.not_eq_true'] at hb
            have h1 := Nat.eq_of_beq_eq_true hb.1
            obtain ⟨_, d, _, _, hu, _, _, _, _, _, _, _, _, _, ha, _⟩ := hT.parts hl
            obtain ⟨e', hd', _⟩ := ha n sz harr
            have hee : e' = et := by
              have h := hT t ty hl
              unfold tyOf at h
              split at h
              · rename_i ti d' e1 e2
                split at h
                · rename_i z e3
                  rw [hu] at e2
                  cases e2
                  cases hq : Nat.beq z.cells.size ti.size with
                  | false => rw [hq] at h; cases h
                  | true =>
                    rw [hq] at h
                    simp only [cond_true, Option.some.injEq] at h
                    subst h
                    subst hd'
                    simpa using hae
                · cases h
              · cases h
            subst hee
            obtain ⟨ti, d2, z2, hi, hu2, _, hsz, _, _, _, _, hag, _⟩ := hT.parts hle
            have hag := hag hb.2
            cases ax with
            | agg cs =>
              cases ay with
              | int ik i =>
                obtain ⟨h0, hlt, v, hv, hK⟩ := hK
                rw [force_eq] at hK
                unfold RepM at hx' hy'
                obtain ⟨vs, hx', hvs⟩ := hx'
                obtain ⟨u, g1, g2⟩ := RepML.get _ _ _ _ hvs hv
                refine wp_pure h hd (v := u) ?_ g2 hK
                have hs1 : ti.size = 1 := by rw [← hsz, h1]
                have hna : (isAgg e').run P w = .ok false w := by
                  cases d2 with
                  | struct fs => exact absurd rfl (hag.1 fs)
                  | array n e => exact absurd rfl (hag.2 n e)
                  | _ => simp [isAgg, run_underlying hu2]
                rw [hd'] at hu
                have g1' : (⟨vs⟩ : Array Value)[i.toNat]? = some u := by simpa using g1
                simp [execOp, ho, hx', hy', Instr.index, asIntOf, run_underlying hu, h0, hlt, Go.sizeOf, typeInfo, hi, hs1, part, hna, Result.andThen, g1]
              | _ => exact hK.elim
            | _ => exact hK.elim

theorem op_indexU {t : TypeId} {x y : Operand} (ho : o.op = .index t x y) (hT : TOk P c.T) (h : Rel c N F M s a w) (hd : ∀ t, o.dst = some t → t < N) (hx : ∀ t, x = .tmp t → t < N) (hy : ∀ t, y = .tmp t → t < N)
    (hK : aIndexU c.T t (ev c.gl s x) (ev c.gl s y) fun v => K (Ab.put o.dst v s)) : o.wpIn (Fw ro) 0 P a w (Post c N F M w K) Q := by
  cases hxe : ev c.gl s x with
  | str b =>
    rw [hxe] at hK
    have hx' := h.ev x hx
    have hy' := h.ev y hy
    rw [hxe] at hx'
    generalize ev c.gl s y = ay at hy' hK
    unfold aIndexU at hK
    simp only at hK
    unfold aIndexS at hK
    cases hl : look c.T t with
    | none => rw [hl] at hK; exact hK.elim
    | some ty =>
      rw [hl] at hK
      simp only at hK
      cases hst : ty.st with
      | false => rw [hst] at hK; exact hK.elim
      | true =>
        rw [hst] at hK
        have hu : P.underlying t = some .string := by
          have h := hT t ty hl
          unfold tyOf at h
          split at h
          · rename_i ti d' e1 e2
            split at h
            · rename_i z e3
              cases hq : Nat.beq z.cells.size ti.size with
              | false => rw [hq] at h; cases h
              | true =>
                rw [hq] at h
                simp only [cond_true, Option.some.injEq] at h
                subst h
                simp only at hst
                split at hst
                · exact e2
                · cases hst
            · cases h
          · cases h
        cases ay with
        | int ik i =>
          obtain ⟨h0, ch, hc, hK⟩ := hK
          unfold RepM at hx' hy'
          refine wp_pure h hd (v := .int .u8 ch.toNat) ?_ (by unfold RepM; rfl) hK
          simp [execOp, ho, hx', hy', Instr.index, asIntOf, run_underlying hu, h0, hc]
        | _ => exact hK.elim
  | _ =>
    refine op_index ho hT h hd hx hy ?_
    rw [hxe] at hK ⊢
    exact hK

theorem arrLay_at : ∀ (n sz o i : Nat) (q : Nat × Nat), (arrLay n sz o)[i]? = some q → q = (o + i * sz, sz)
  | 0, _, _, _, _, h => by simp [arrLay] at h
  | n + 1, sz, o, 0, q, h => by simp [arrLay] at h; rw [← h]; simp
  | n + 1, sz, o, i + 1, q, h => by
      unfold arrLay at h
      have := arrLay_at n sz (o + sz) i q (by simpa using h)
      rw [this, Nat.add_mul]
      congr 1
      omega

theorem fill_mono {p1 p2 : Nat → Option (Nat × Nat)} (h : ∀ i q, p1 i = some q → p2 i = some q) : ∀ (ps : List (Nat × Value)) (cur cur' : Array Value), Instr.fill p1 cur ps = some cur' → Instr.fill p2 cur ps = some cur'
  | [], cur, cur', hf => by unfold Instr.fill at hf ⊢; exact hf
  | (i, v) :: ps, cur, cur', hf => by
      unfold Instr.fill at hf ⊢
      cases hp : p1 i with
      | none => rw [hp] at hf; simp at hf
      | some q =>
        rw [hp] at hf
        rw [h i q hp]
        simp only at hf ⊢
        split at hf
        · cases hf
        · rename_i hc
          rw [if_neg hc]
          exact fill_mono h ps _ _ hf

theorem op_build {t : TypeId} {ps : Array (Nat × Operand)} (ho : o.op = .build t ps) (hT : TOk P c.T) (h : Rel c N F M s a w) (hd : ∀ t, o.dst = some t → t < N) (hx : ∀ p ∈ ps.toList, ∀ t, p.2 = .tmp t → t < N)
    (hK : match look c.T t with
    | some i => match layOf i with
      | [] => False
      | _ :: _ => match and i.fo (ones (cells i.zv)) with | true => fillA (layOf i) (evParts c.gl s ps.toList) (cells i.zv) fun cs => K (Ab.put o.dst (.agg cs) s) | false => False
    | none => False) : o.wpIn (Fw ro) 0 P a w (Post c N F M w K) Q := by
  cases hl : look c.T t with
  | none => rw [hl] at hK; exact hK.elim
  | some i =>
    rw [hl] at hK
    simp only at hK
    obtain ⟨ti, d, z, hi, hu, hz, _, _, hzv, _, _, _, hlay, hne, harr, _, _, hfo, _⟩ := hT.parts hl
    cases hly0 : i.lay with
    | nil =>
      cases hly : layOf i with
      | nil => rw [hly] at hK; exact hK.elim
      | cons p l =>
        rw [hly] at hK
        simp only at hK
        cases hb : and i.fo (ones (cells i.zv)) with
        | false => rw [hb] at hK; exact hK.elim
        | true =>
          rw [hb] at hK
          simp only [Bool.and_eq_true] at hb
          have hr := (cells_rep (w := w) (F := F) (M := M) (by rw [← hzv]; exact hb.2) (evOfV z)).1
          rw [hzv] at hK
          obtain ⟨cs', cur', k1, k2, k3⟩ := fill_struct (p :: l) ps.toList _ _ hx h hr hK
          refine wp_pure h hd (v := .agg cur') ?_ (by unfold RepM; exact ⟨cur'.toList, rfl, k2⟩) k3
          unfold layOf at hly
          rw [hly0] at hly
          simp only at hly
          cases ha : i.arr with
          | none => rw [ha] at hly; cases hly
          | some q =>
            obtain ⟨n, sz⟩ := q
            cases sz with
            | zero => rw [ha] at hly; cases hly
            | succ sz =>
              rw [ha] at hly
              simp only at hly
              obtain ⟨e, rfl, he⟩ := harr n _ ha
              have hs : (Go.sizeOf e).run P w = .ok (sz + 1) w := by
                unfold Program.cellsOf at he
                cases hq : P.info? e with
                | none => rw [hq] at he; simp at he
                | some te => rw [hq] at he; simp at he; simp [Go.sizeOf, typeInfo, hq, ← he]
              have k4 := fill_mono (p2 := fun i => some (i * (sz + 1), sz + 1)) (fun i q hq => by
                rw [← hly] at hq
                have := arrLay_at n (sz + 1) 0 i q hq
                rw [this, Nat.zero_add]) _ _ _ k1
              simp only [execOp, ho, Instr.build, zeroValue, typeInfo, Sem.run_bind, Result.andThen, Sem.run_pure]
              simp [hi, hz, run_underlying hu, hs, k4]
    | cons p l =>
      have hlo : layOf i = p :: l := by unfold layOf; rw [hly0]
      have hly := hly0
      rw [hlo] at hK
      simp only at hK
      cases hb : and i.fo (ones (cells i.zv)) with
      | false => rw [hb] at hK; exact hK.elim
      | true =>
        rw [hb] at hK
        simp only [Bool.and_eq_true] at hb
        obtain ⟨fs, rfl⟩ := hne (by rw [hly]; simp)
        have hr := (cells_rep (w := w) (F := F) (M := M) (by rw [← hzv]; exact hb.2) (evOfV z)).1
        rw [hzv] at hK
        obtain ⟨cs', cur', k1, k2, k3⟩ := fill_struct (p :: l) ps.toList _ _ hx h hr hK
        refine wp_pure h hd (v := .agg cur') ?_ (by unfold RepM; exact ⟨cur'.toList, rfl, k2⟩) k3
        have hpl := run_places (P := P) (w := w) fs (hfo fs rfl hb.1)
        have hplace : (fun (i : Nat) => (p :: l)[i]?) = fun (i : Nat) => ((fs.toList.map fun f => (f.offset, P.cellsOf f.type)).toArray)[i]? := by
          funext i
          rw [← hly, hlay fs rfl]; simp
        rw [hplace] at k1
        have hp2 : (fun (i : Nat) => ((fs.toList.map fun f => (f.offset, P.cellsOf f.type)).toArray)[i]?) = fun (x : Nat) => Option.map (fun f => (f.offset, P.cellsOf f.type)) fs[x]? := by
          funext x; simp
        rw [hp2] at k1
        have e2 : (ps.map fun (x : Nat × Operand) => (x.1, a.eval x.2)).toList = ps.toList.map fun p => (p.1, a.eval p.2) := by simp
        simp only [execOp, ho, Instr.build, zeroValue, typeInfo, Sem.run_bind, Result.andThen, Sem.run_pure]
        simp [hi, hz, run_underlying hu, hpl, k1]

theorem flat_set {sz : Nat} : ∀ (rows : List (List AV)) (i : Nat) (cs : List AV), RowsOk sz rows → i < rows.length → cs.length = sz →
    (rows.set i cs).flatten = rows.flatten.take (i * sz) ++ cs ++ rows.flatten.drop (i * sz + sz)
  | [], i, cs, _, h, _ => by simp at h
  | r :: rs, 0, cs, hok, _, hc => by
      have h0 := hok r (by simp)
      simp only [List.set_cons_zero, List.flatten_cons, Nat.zero_mul, List.take_zero, List.nil_append, Nat.zero_add]
      rw [← h0, List.drop_left]
  | r :: rs, i + 1, cs, hok, h, hc => by
      have h0 := hok r (by simp)
      rw [List.set_cons_succ, List.flatten_cons, List.flatten_cons, flat_set rs i cs (fun q hq => hok q (by simp [hq])) (by simpa using h) hc]
      have e1 : (i + 1) * sz = r.length + i * sz := by rw [h0, Nat.add_mul]; omega
      rw [e1, Nat.add_assoc, List.take_length_add_append, List.drop_length_add_append]
      simp [List.append_assoc]

/-- the elements of a literal -/
theorem fill_rows {ks : List Nat} {sz : Nat} : ∀ (ps : List (Nat × Operand)) (rows : List (List AV)) (cur : Array Value), (∀ p ∈ ps, ∀ t, p.2 = .tmp t → t < N) → Rel c N F M s a w →
    (∀ k ∈ keysP (evParts c.gl s ps), k ∈ ks) → RowsOk sz rows → RepDL w (frzF ks s.hp M F) rows.flatten cur.toList → (∀ x ∈ rows.flatten, one x = true) → ∀ {K : List (List AV) → Prop}, fillR s.hp sz (evParts c.gl s ps) rows K →
    ∃ rows' cur', Instr.fill (fun i => some (i * sz, sz)) cur (ps.map fun p => (p.1, a.eval p.2)) = some cur' ∧ RowsOk sz rows' ∧ rows'.length = rows.length ∧ RepDL w (frzF ks s.hp M F) rows'.flatten cur'.toList ∧ (∀ x ∈ rows'.flatten, one x = true) ∧ K rows'
  | [], rows, cur, _, h, _, hok, hr, h1, K, hK => ⟨rows, cur, rfl, hok, rfl, hr, h1, by unfold evParts fillR at hK; exact hK⟩
  | (i, x) :: ps, rows, cur, hx, h, hks, hok, hr, h1, K, hK => by
      unfold evParts fillR at hK
      have hv := h.ev x (hx (i, x) (by simp))
      have hc := cells_rep (toDs_ones _ hK) hv
      obtain ⟨ds, d1, d2, hK⟩ := toDs_sound h.toHR _ _ hc.1 hK
      rw [lenL_eq] at hK
      cases hb : and (Nat.beq ds.length sz) (Nat.ble (i + 1) rows.length) with
      | false => rw [hb] at hK; exact hK.elim
      | true =>
        rw [hb] at hK
        simp only [Bool.and_eq_true] at hb
        have b1 := Nat.eq_of_beq_eq_true hb.1
        have b2 := Nat.le_of_ble_eq_true hb.2
        have hks' : ∀ k ∈ keysL (cells (ev c.gl s x)), k ∈ ks := fun k hk => hks k (by unfold evParts keysP; exact List.mem_append_left _ hk)
        have d1' : RepDL w (frzF ks s.hp M F) ds (a.eval x).cells.toList := RepDL.mono (fun b hb => frzF_mono hks' hb) (fun _ _ => rfl) _ _ d1
        have hl1 := RepDL.len _ _ d1'
        have hl2 := RepDL.len _ _ hr
        have hfl := flat_len rows hok
        have hbd : i * sz + sz ≤ rows.length * sz := by
          have := Nat.mul_le_mul_right sz (show i + 1 ≤ rows.length by omega)
          rwa [Nat.add_mul, Nat.one_mul] at this
        have esz : (a.eval x).cells.size = sz := by simp at hl1; omega
        rw [hfl, Array.length_toList] at hl2
        have hfold := fold_arr (i * sz) (a.eval x).cells cur (by omega)
        rw [esz] at hfold
        have hset := flat_set rows i ds hok (by omega) b1
        have hr' : RepDL w (frzF ks s.hp M F) (rows.set i ds).flatten ((a.eval x).cells.zipIdx.foldl (fun cs (x : Value × Nat) => cs.setIfInBounds (i * sz + x.2) x.1) cur).toList := by
          rw [hfold, hset]
          exact ((hr.take (i * sz)).app d1').app (hr.drop (i * sz + sz))
        obtain ⟨rows', cur', k1, k2, k3, k4, k5, k6⟩ := fill_rows ps (rows.set i ds) _ (fun p hp => hx p (by simp [hp])) h (fun k hk => hks k (by unfold evParts keysP; exact List.mem_append_right _ hk))
          (fun r hr => by
            rcases List.mem_or_eq_of_mem_set hr with hr | hr
            · exact hok r hr
            · rw [hr]; exact b1) hr' (fun y hy => by
            rw [hset, List.append_assoc, List.mem_append, List.mem_append] at hy
            rcases hy with hy | hy | hy
            · exact h1 y (List.mem_of_mem_take hy)
            · exact d2 y hy
            · exact h1 y (List.mem_of_mem_drop hy)) hK
        refine ⟨rows', cur', ?_, k2, by rw [k3]; simp, k4, k5, k6⟩
        rw [List.map_cons, Instr.fill]
        simp only
        have e2 : ¬ (i * sz + sz > cur.size) := by omega
        simp only [esz, ne_eq, not_true_eq_false, decide_false, Bool.false_or]
        rw [if_neg (by simpa using e2)]
        exact k1

/-- the elements of a literal, which need not be data -/
theorem fill_own : ∀ (ps : List (Nat × Operand)) (cs : List AV) (cur : Array Value), (∀ p ∈ ps, ∀ t, p.2 = .tmp t → t < N) → Rel c N F M s a w →
    RepML w F M cs cur.toList → ones cs = true → ∀ {K : List AV → Prop}, fillO (evParts c.gl s ps) cs K →
    ∃ cs' cur', Instr.fill (fun i => some (i * 1, 1)) cur (ps.map fun p => (p.1, a.eval p.2)) = some cur' ∧ cs'.length = cs.length ∧ RepML w F M cs' cur'.toList ∧ ones cs' = true ∧ K cs'
  | [], cs, cur, _, h, hr, h1, K, hK => ⟨cs, cur, rfl, rfl, hr, h1, by unfold evParts fillO at hK; rw [forceL_eq] at hK; exact hK⟩
  | (i, x) :: ps, cs, cur, hx, h, hr, h1, K, hK => by
      unfold evParts fillO at hK
      rw [force_eq] at hK
      have hv := h.ev x (hx (i, x) (by simp))
      generalize ev c.gl s x = ax at hv hK
      rw [lenL_eq] at hK
      cases hb : and (one ax) (Nat.ble (i + 1) cs.length) with
      | false => rw [hb] at hK; exact hK.elim
      | true =>
        rw [hb] at hK
        simp only [Bool.and_eq_true] at hb
        have b2 := Nat.le_of_ble_eq_true hb.2
        have hcx : cells ax = [ax] := by cases ax <;> first | rfl | (simp [one] at hb)
        have hc := cells_rep (av := ax) (v := a.eval x) (by rw [hcx]; simp only [ones, hb.1]; rfl) hv
        rw [hcx] at hc
        have hl1 := RepML.len _ _ hc.1
        have hl2 := RepML.len _ _ hr
        have esz : (a.eval x).cells.size = 1 := by simpa using hl1
        rw [Array.length_toList] at hl2
        have hfold := fold_arr (i * 1) (a.eval x).cells cur (by omega)
        rw [esz] at hfold
        have hset : cs.set i ax = cs.take (i * 1) ++ [ax] ++ cs.drop (i * 1 + 1) := by
          rw [Nat.mul_one, List.set_eq_take_append_cons_drop, if_pos (by omega)]; simp
        have hr' : RepML w F M (cs.set i ax) ((a.eval x).cells.zipIdx.foldl (fun cs (x : Value × Nat) => cs.setIfInBounds (i * 1 + x.2) x.1) cur).toList := by
          rw [hfold, hset]
          exact ((hr.take (i * 1)).app hc.1).app (hr.drop (i * 1 + 1))
        have h1' : ones (cs.set i ax) = true := ones_all fun y hy => by
          rcases List.mem_or_eq_of_mem_set hy with hy | hy
          · exact ones_mem h1 y hy
          · rw [hy]; exact hb.1
        obtain ⟨cs', cur', k1, k2, k3, k4, k5⟩ := fill_own ps (cs.set i ax) _ (fun p hp => hx p (by simp [hp])) h hr' h1' hK
        refine ⟨cs', cur', ?_, by rw [k2]; simp, k3, k4, k5⟩
        rw [List.map_cons, Instr.fill]
        simp only
        have e2 : ¬ (i * 1 + 1 > cur.size) := by omega
        simp only [esz, ne_eq, not_true_eq_false, decide_false, Bool.false_or]
        rw [if_neg (by simpa using e2)]
        exact k1

theorem op_buildSlice {t : TypeId} {n : Nat} {ps : Array (Nat × Operand)} (ho : o.op = .buildSlice t n ps) (hT : TOk P c.T) (h : Rel c N F M s a w) (hd : ∀ t, o.dst = some t → t < N) (hx : ∀ p ∈ ps.toList, ∀ t, p.2 = .tmp t → t < N)
    (hK : aBuildSlice c.T t n (evParts c.gl s ps.toList) s fun v s' => K (Ab.put o.dst v s')) : o.wpIn (Fw ro) 0 P a w (Post c N F M w K) Q := by
  unfold aBuildSlice at hK
  cases hsl : (look c.T t).bind fun i => i.sl with
  | none => rw [hsl] at hK; exact hK.elim
  | some et =>
    rw [hsl] at hK
    simp only at hK
    cases he : look c.T et with
    | none => rw [he] at hK; exact hK.elim
    | some e =>
      rw [he] at hK
      simp only at hK
      obtain ⟨et', ti, z, hu, hi, hz, hsz, hby, hzv, hzs⟩ := hT.elem (t := t) (e := e) (by rw [hsl]; exact he)
      have : et' = et := by
        cases hl : look c.T t with
        | none => simp [hl] at hsl
        | some i =>
          obtain ⟨_, d, _, _, hu', _, _, _, _, hsl', _⟩ := hT.parts hl
          rw [hl] at hsl
          rw [hsl' et hsl] at hu'
          rw [hu'] at hu; cases hu; rfl
      subst this
      cases hesl : e.sl with
      | some est =>
        rw [hesl] at hK
        simp only at hK
        cases hev : e.zv with
        | nil =>
          rw [hev] at hK
          simp only at hK
          cases hb : Nat.ble n 65536 with
          | false => rw [hb] at hK; exact hK.elim
          | true =>
            rw [hb] at hK
            have b3 := Nat.le_of_ble_eq_true hb
            have hzn : z = .slice none 0 0 := ofV_nil (by rw [← hzv, hev])
            have hs1 : e.sz = 1 := by rw [← hzs, hzn]; rfl
            have hzc : z.cells = #[.slice none 0 0] := by rw [hzn]; rfl
            obtain ⟨cs', cur', k1, k3, k4, k5, k6⟩ := fill_own ps.toList (List.replicate n .nil) (madeCells z.cells n) hx h
              (RepML_nils _ _ (by simp [size_madeCells]) (by rw [hzc]; exact made_nil)) (ones_nils _) hK
            have hlen : cs'.length = n := by rw [k3]; simp
            have hcl : cur'.toList.length = n := by have := RepML.len _ _ k4; omega
            obtain ⟨M', g1, g2, g3⟩ := h.toHR.newOwn (cs := cs') (vs := cur'.toList) (cap := n) (et := et') (by rw [hlen, ← hcl, List.take_length]; exact k4) k5 (by omega) (by simp only [maxLen]; omega) hcl
            refine wp_next h hd g1 g2 (v := .slice (some ⟨w.heap.size, 0, none⟩) n n) ?_ ?_ k6
            · have hs : (Go.sizeOf et').run P w = .ok e.sz w := by simp [Go.sizeOf, typeInfo, hi, hsz]
              have hzr : (zeroValue et').run P w = .ok z w := by simp [zeroValue, typeInfo, hi, hz]
              rw [hs1] at hs
              by_cases h0 : n = 0
              · have hm0 : madeCells z.cells n = #[] := by rw [h0]; simp [madeCells]
                rw [hm0] at k1
                subst h0
                simp at k1
                simp [execOp, ho, Instr.buildSlice, run_underlying hu, hs, k1, newRow, Array.range_zero']
              · have k1' := k1
                unfold madeCells at k1'
                simp at k1'
                simp [execOp, ho, Instr.buildSlice, run_underlying hu, hs, h0, hzr, Nat.not_lt.2 (show n ≤ 16777216 by omega), k1', newRow]
            · unfold RepM
              exact ⟨_, g3, .inl ⟨by simp, by simp⟩⟩
        | _ => rw [hev] at hK; exact hK.elim
      | none =>
      rw [hesl] at hK
      simp only at hK
      rw [hzv] at hK
      obtain ⟨row, r1, r2, r3, hK⟩ := zero_row h.toHR hK
      rw [lenL_eq] at hK
      cases hb : and (and (Nat.ble 1 e.sz) (Nat.beq row.length e.sz)) (Nat.ble (n * e.sz) 65536) with
      | false => rw [hb] at hK; exact hK.elim
      | true =>
        rw [hb] at hK
        simp only [Bool.and_eq_true] at hb
        have b1 := Nat.le_of_ble_eq_true hb.1.1
        have b2 := Nat.eq_of_beq_eq_true hb.1.2
        have b3 := Nat.le_of_ble_eq_true hb.2
        simp only at hK
        obtain ⟨f1, f2⟩ := h.toHR.freeze (keysP (evParts c.gl s ps.toList))
        have hrep := repl_rep r1 b2 (by omega) n
        have hrep' := RepDL.mono f2.foot f2.cell _ _ hrep
        obtain ⟨rows', cur', k1, k2, k3, k4, k5, k6⟩ := fill_rows (ks := keysP (evParts c.gl s ps.toList)) (sz := e.sz) ps.toList (List.replicate n row) (madeCells z.cells (n * e.sz)) hx h (fun k hk => hk)
          (fun q hq => by rw [List.eq_of_mem_replicate hq]; exact b2) hrep' (fun x hx => by
            rw [List.mem_flatten] at hx
            obtain ⟨l, hl, hx⟩ := hx
            rw [List.eq_of_mem_replicate hl] at hx
            exact r2 x hx) hK
        have hlen : rows'.length = n := by rw [k3]; simp
        have hcl : cur'.toList.length = n * e.sz := by rw [RepDL.len _ _ k4, flat_len rows' k2, hlen]
        have hnm : n ≤ maxLen := by
          have : n ≤ n * e.sz := Nat.le_mul_of_pos_right _ (by omega)
          simp only [maxLen]; omega
        obtain ⟨M', g1, g2, g3⟩ := f1.newArr (rows := rows') (vs := cur'.toList) (sz := e.sz) (cap := n) (et := et') (by rw [hlen, ← hcl, List.take_length]; exact k4) k5 k2 (by omega) (by omega) hnm hcl
        refine wp_next h hd g1 (f2.trans g2) (v := .slice (some ⟨w.heap.size, 0, none⟩) n n) ?_ ?_ k6
        · have hs : (Go.sizeOf et').run P w = .ok e.sz w := by simp [Go.sizeOf, typeInfo, hi, hsz]
          have hzr : (zeroValue et').run P w = .ok z w := by simp [zeroValue, typeInfo, hi, hz]
          have hnot : ¬ (n * e.sz > 2 ^ 24) := by omega
          have e2 : (ps.map fun (x : Nat × Operand) => (x.1, a.eval x.2)).toList = ps.toList.map fun p => (p.1, a.eval p.2) := by simp
          have hmade : (if n * e.sz = 0 then (madeCells #[] (n * e.sz)) else madeCells z.cells (n * e.sz)) = madeCells z.cells (n * e.sz) := by
            split
            · rename_i h0; rw [h0]; simp [madeCells]
            · rfl
          by_cases h0 : n * e.sz = 0
          · have hm0 : madeCells z.cells (n * e.sz) = #[] := by rw [h0]; simp [madeCells]
            rw [hm0] at k1
            have hn0 : n = 0 := by
              rcases Nat.mul_eq_zero.1 h0 with h | h
              · exact h
              · omega
            subst hn0
            simp [execOp, ho, Instr.buildSlice, run_underlying hu, hs, k1, newRow, Array.range_zero']
          · have k1' := k1
            unfold madeCells at k1'
            simp [execOp, ho, Instr.buildSlice, run_underlying hu, hs, h0, hzr, Nat.not_lt.2 (show n * e.sz ≤ 16777216 by omega), k1', newRow]
        · unfold RepM
          exact ⟨_, g3, .inl ⟨by simp, by simp⟩⟩
end
end Ab
