import Derived.Test.YteghdokklckbhaaDoorXOp6
/-!
Soundness of composite values.
-/
namespace Ab
open Go Go.RowKit

section
variable {c : Ctx} {ro : Option Nat} {N : Nat} {F F' : Foot} {M M' : Nat → Option MB} {s : St} {a : Act} {w w' : World} {P : Program} {o : Oper} {K : St → Prop} {Q : Exit → Act → World → Prop}

theorem fold_list (off : Nat) : ∀ (vs : List Value) (k : Nat) (cur : Array Value), off + k + vs.length ≤ cur.size →
    ((vs.zipIdx k).foldl (fun cs p => cs.setIfInBounds (off + p.2) p.1) cur).toList = cur.toList.take (off + k) ++ vs ++ cur.toList.drop (off + k + vs.length)
  | [], k, cur, _ => by simp
  | v :: vs, k, cur, h => by
      simp only [List.length_cons] at h
      rw [List.zipIdx_cons, List.foldl_cons, fold_list off vs (k + 1) _ (by simp; omega)]
      apply List.ext_getElem?
      intro j
      have h1 := splice_get (cur.setIfInBounds (off + k) v).toList vs (off + (k + 1)) j (by simp; omega)
      have h2 := splice_get cur.toList (v :: vs) (off + k) j (by simp; omega)
      rw [h1, h2]
      simp only [Array.toList_setIfInBounds, List.getElem?_set, List.length_cons, Array.length_toList]
      by_cases c1 : j < off + k
      · rw [if_pos (by omega), if_pos c1, if_neg (by omega)]
      · rw [if_neg c1]
        by_cases c2 : j = off + k
        · subst c2
          rw [if_pos (by omega), if_pos rfl, if_pos (by omega), if_pos (by omega)]; simp
        · rw [if_neg (by omega)]
          by_cases c3 : j < off + k + (vs.length + 1)
          · rw [if_pos (by omega), if_pos c3, show j - (off + k) = (j - (off + (k + 1))) + 1 by omega]; simp
          · rw [if_neg (by omega), if_neg (by omega), if_neg (by omega)]

theorem fold_arr (off : Nat) (vs cur : Array Value) (h : off + vs.size ≤ cur.size) :
    (vs.zipIdx.foldl (fun cs (x : Value × Nat) => cs.setIfInBounds (off + x.2) x.1) cur).toList = cur.toList.take off ++ vs.toList ++ cur.toList.drop (off + vs.size) := by
  rw [← Array.foldl_toList, Array.toList_zipIdx]
  have := fold_list off vs.toList 0 cur (by simpa using h)
  simpa using this

theorem RepML_of : ∀ (l : List AV) (vs : List Value), l.length = vs.length → (∀ (j : Nat) (x : AV) (v : Value), l[j]? = some x → vs[j]? = some v → RepM w F M x v) → RepML w F M l vs
  | [], vs, h, _ => by
      unfold RepML
      exact List.eq_nil_of_length_eq_zero (by simpa using h.symm)
  | x :: l, [], h, _ => by simp at h
  | x :: l, v :: vs, h, hp => by
      unfold RepML
      exact ⟨v, vs, rfl, hp 0 x v rfl rfl, RepML_of l vs (by simpa using h) fun j y u hy hu => hp (j + 1) y u (by simpa using hy) (by simpa using hu)⟩
theorem RepML.app {l m : List AV} {vs us : List Value} (h : RepML w F M l vs) (g : RepML w F M m us) : RepML w F M (l ++ m) (vs ++ us) := by
  refine RepML_of _ _ (by simp [RepML.len _ _ h, RepML.len _ _ g]) fun j x v hx hv => ?_
  have hl := RepML.len _ _ h
  by_cases hj : j < l.length
  · rw [List.getElem?_append_left hj] at hx
    rw [List.getElem?_append_left (by omega)] at hv
    obtain ⟨u, h1, h2⟩ := RepML.get _ _ _ _ h hx
    rw [hv] at h1; cases h1; exact h2
  · rw [List.getElem?_append_right (by omega)] at hx
    rw [List.getElem?_append_right (by omega), hl] at hv
    obtain ⟨u, h1, h2⟩ := RepML.get _ _ _ _ g hx
    rw [hv] at h1; cases h1; exact h2
theorem RepML.take {l : List AV} {vs : List Value} (n : Nat) (h : RepML w F M l vs) : RepML w F M (l.take n) (vs.take n) := by
  refine RepML_of _ _ (by simp [RepML.len _ _ h]) fun j x v hx hv => ?_
  rw [List.getElem?_take] at hx hv
  split at hx
  · rename_i hj
    rw [if_pos hj] at hv
    obtain ⟨u, h1, h2⟩ := RepML.get _ _ _ _ h hx
    rw [hv] at h1; cases h1; exact h2
  · cases hx
theorem RepML.drop {l : List AV} {vs : List Value} (n : Nat) (h : RepML w F M l vs) : RepML w F M (l.drop n) (vs.drop n) := by
  refine RepML_of _ _ (by simp [RepML.len _ _ h]) fun j x v hx hv => ?_
  rw [List.getElem?_drop] at hx hv
  obtain ⟨u, h1, h2⟩ := RepML.get _ _ _ _ h hx
  rw [hv] at h1; cases h1; exact h2

/-- a struct's parts -/
theorem fill_struct (lay : List (Nat × Nat)) : ∀ (ps : List (Nat × Operand)) (cs : List AV) (cur : Array Value), (∀ p ∈ ps, ∀ t, p.2 = .tmp t → t < N) → Rel c N F M s a w → RepML w F M cs cur.toList →
    ∀ {K : List AV → Prop}, fillA lay (evParts c.gl s ps) cs K →
    ∃ cs' cur', Instr.fill (fun i => lay[i]?) cur (ps.map fun p => (p.1, a.eval p.2)) = some cur' ∧ RepML w F M cs' cur'.toList ∧ K cs'
  | [], cs, cur, _, h, hr, K, hK => by
      unfold evParts fillA at hK
      rw [forceL_eq] at hK
      exact ⟨cs, cur, rfl, hr, hK⟩
  | (i, x) :: ps, cs, cur, hx, h, hr, K, hK => by
      unfold evParts fillA at hK
      rw [nth_eq] at hK
      cases hl : lay[i]? with
      | none => rw [hl] at hK; exact hK.elim
      | some p =>
        obtain ⟨off, size⟩ := p
        rw [hl] at hK
        simp only [lenL_eq, takeL_eq, dropL_eq, appL_eq] at hK
        cases hb : and (and (Nat.beq (cells (ev c.gl s x)).length size) (Nat.ble (off + size) cs.length)) (ones (cells (ev c.gl s x))) with
        | false => rw [hb] at hK; exact hK.elim
        | true =>
          rw [hb] at hK
          simp only [Bool.and_eq_true] at hb
          have h1 := Nat.eq_of_beq_eq_true hb.1.1
          have h2 := Nat.le_of_ble_eq_true hb.1.2
          have hv := h.ev x (hx (i, x) (by simp))
          have hcv : RepML w F M (cells (ev c.gl s x)) (a.eval x).cells.toList := (cells_rep hb.2 hv).1
          have hl1 := RepML.len _ _ hcv
          have hl2 := RepML.len _ _ hr
          have hfold := fold_arr off (a.eval x).cells cur (by simp at hl1 hl2; omega)
          have hr' : RepML w F M (cs.take off ++ (cells (ev c.gl s x) ++ cs.drop (off + size))) ((a.eval x).cells.zipIdx.foldl (fun cs (x : Value × Nat) => cs.setIfInBounds (off + x.2) x.1) cur).toList := by
            rw [hfold, ← List.append_assoc]
            have e : (a.eval x).cells.size = size := by simp at hl1; omega
            rw [e]
            exact ((hr.take off).app hcv).app (hr.drop (off + size))
          obtain ⟨cs', cur', k1, k2, k3⟩ := fill_struct lay ps _ _ (fun p hp => hx p (by simp [hp])) h hr' hK
          refine ⟨cs', cur', ?_, k2, k3⟩
          rw [List.map_cons, Instr.fill, hl]
          simp only
          have e1 : (a.eval x).cells.size = size := by simp at hl1; omega
          have e2 : ¬ (off + (a.eval x).cells.size > cur.size) := by simp at hl1 hl2; omega
          simp only [e1, ne_eq, not_true_eq_false, decide_false, Bool.false_or]
          rw [if_neg (by rw [e1] at e2; simpa using e2)]
          exact k1

theorem run_places (fs : Array Field) (h : ∀ f ∈ fs.toList, (P.info? f.type).isSome = true) :
    (fs.mapM (m := Sem) fun f => Prod.mk f.offset <$> Go.sizeOf f.type).run P w = .ok ((fs.toList.map fun f => (f.offset, P.cellsOf f.type)).toArray) w := by
  have key : ∀ (l : List Field), (∀ f ∈ l, (P.info? f.type).isSome = true) → (l.mapM (m := Sem) fun f => Prod.mk f.offset <$> Go.sizeOf f.type).run P w = .ok (l.map fun f => (f.offset, P.cellsOf f.type)) w := by
    intro l
    induction l with
    | nil => intro _; rfl
    | cons f l ih =>
      intro hl
      obtain ⟨ti, hi⟩ := Option.isSome_iff_exists.1 (hl f (by simp))
      have hs : (Go.sizeOf f.type).run P w = .ok (P.cellsOf f.type) w := by simp [Go.sizeOf, typeInfo, hi, Program.cellsOf]
      have := ih (fun g hg => hl g (by simp [hg]))
      simp [List.mapM_cons, hs, this]
  have e : fs.mapM (m := Sem) (fun f => Prod.mk f.offset <$> Go.sizeOf f.type) = List.toArray <$> fs.toList.mapM (m := Sem) (fun f => Prod.mk f.offset <$> Go.sizeOf f.type) := by
    rw [Array.mapM_eq_mapM_toList]
  rw [e]
  simp [key fs.toList h]

theorem op_build {t : TypeId} {ps : Array (Nat × Operand)} (ho : o.op = .build t ps) (hT : TOk P c.T) (h : Rel c N F M s a w) (hd : ∀ t, o.dst = some t → t < N) (hx : ∀ p ∈ ps.toList, ∀ t, p.2 = .tmp t → t < N)
    (hK : match look c.T t with
    | some i => match i.lay with
      | [] => False
      | _ :: _ => match and i.fo (ones (cells i.zv)) with | true => fillA i.lay (evParts c.gl s ps.toList) (cells i.zv) fun cs => K (Ab.put o.dst (.agg cs) s) | false => False
    | none => False) : o.wpIn (Fw ro) 0 P a w (Post c N F M w K) Q := by
  cases hl : look c.T t with
  | none => rw [hl] at hK; exact hK.elim
  | some i =>
    rw [hl] at hK
    simp only at hK
    obtain ⟨ti, d, z, hi, hu, hz, _, _, hzv, _, _, _, hlay, hne, _, _, _, hfo, _⟩ := hT.parts hl
    cases hly : i.lay with
    | nil => rw [hly] at hK; exact hK.elim
    | cons p l =>
      rw [hly] at hK
      simp only at hK
      cases hb : and i.fo (ones (cells i.zv)) with
      | false => rw [hb] at hK; exact hK.elim
      | true =>
        rw [hb] at hK
        simp only [Bool.and_eq_true] at hb
        obtain ⟨fs, rfl⟩ := hne (by rw [hly]; simp)
        have hr := (cells_rep (w := w) (F := F) (M := M) (by rw [← hzv]; exact hb.2) (evOfV z)).1
        rw [hzv] at hK
        obtain ⟨cs', cur', k1, k2, k3⟩ := fill_struct (p :: l) ps.toList _ _ hx h hr hK
        refine wp_pure h hd (v := .agg cur') ?_ (by unfold RepM; exact ⟨cur'.toList, rfl, k2⟩) k3
        have hpl := run_places (P := P) (w := w) fs (hfo fs rfl hb.1)
        have hplace : (fun (i : Nat) => (p :: l)[i]?) = fun (i : Nat) => ((fs.toList.map fun f => (f.offset, P.cellsOf f.type)).toArray)[i]? := by
          funext i
          rw [← hly, hlay fs rfl]; simp
        rw [hplace] at k1
        have hp2 : (fun (i : Nat) => ((fs.toList.map fun f => (f.offset, P.cellsOf f.type)).toArray)[i]?) = fun (x : Nat) => Option.map (fun f => (f.offset, P.cellsOf f.type)) fs[x]? := by
          funext x; simp
        rw [hp2] at k1
        have e2 : (ps.map fun (x : Nat × Operand) => (x.1, a.eval x.2)).toList = ps.toList.map fun p => (p.1, a.eval p.2) := by simp
        simp only [execOp, ho, Instr.build, zeroValue, typeInfo, Sem.run_bind, Result.andThen, Sem.run_pure]
        simp [hi, hz, run_underlying hu, hpl, k1]

theorem flat_set {sz : Nat} : ∀ (rows : List (List AV)) (i : Nat) (cs : List AV), RowsOk sz rows → i < rows.length → cs.length = sz →
    (rows.set i cs).flatten = rows.flatten.take (i * sz) ++ cs ++ rows.flatten.drop (i * sz + sz)
  | [], i, cs, _, h, _ => by simp at h
  | r :: rs, 0, cs, hok, _, hc => by
      have h0 := hok r (by simp)
      simp only [List.set_cons_zero, List.flatten_cons, Nat.zero_mul, List.take_zero, List.nil_append, Nat.zero_add]
      rw [← h0, List.drop_left]
  | r :: rs, i + 1, cs, hok, h, hc => by
      have h0 := hok r (by simp)
      rw [List.set_cons_succ, List.flatten_cons, List.flatten_cons, flat_set rs i cs (fun q hq => hok q (by simp [hq])) (by simpa using h) hc]
      have e1 : (i + 1) * sz = r.length + i * sz := by rw [h0, Nat.add_mul]; omega
      rw [e1, Nat.add_assoc, List.take_length_add_append, List.drop_length_add_append]
      simp [List.append_assoc]

/-- the elements of a literal -/
theorem fill_rows {ks : List Nat} {sz : Nat} : ∀ (ps : List (Nat × Operand)) (rows : List (List AV)) (cur : Array Value), (∀ p ∈ ps, ∀ t, p.2 = .tmp t → t < N) → Rel c N F M s a w →
    (∀ k ∈ keysP (evParts c.gl s ps), k ∈ ks) → RowsOk sz rows → RepDL w (frzF ks s.hp M F) rows.flatten cur.toList → (∀ x ∈ rows.flatten, one x = true) → ∀ {K : List (List AV) → Prop}, fillR s.hp sz (evParts c.gl s ps) rows K →
    ∃ rows' cur', Instr.fill (fun i => some (i * sz, sz)) cur (ps.map fun p => (p.1, a.eval p.2)) = some cur' ∧ RowsOk sz rows' ∧ rows'.length = rows.length ∧ RepDL w (frzF ks s.hp M F) rows'.flatten cur'.toList ∧ (∀ x ∈ rows'.flatten, one x = true) ∧ K rows'
  | [], rows, cur, _, h, _, hok, hr, h1, K, hK => ⟨rows, cur, rfl, hok, rfl, hr, h1, by unfold evParts fillR at hK; exact hK⟩
  | (i, x) :: ps, rows, cur, hx, h, hks, hok, hr, h1, K, hK => by
      unfold evParts fillR at hK
      have hv := h.ev x (hx (i, x) (by simp))
      have hc := cells_rep (toDs_ones _ hK) hv
      obtain ⟨ds, d1, d2, hK⟩ := toDs_sound h.toHR _ _ hc.1 hK
      rw [lenL_eq] at hK
      cases hb : and (Nat.beq ds.length sz) (Nat.ble (i + 1) rows.length) with
      | false => rw [hb] at hK; exact hK.elim
      | true =>
        rw [hb] at hK
        simp only [Bool.and_eq_true] at hb
        have b1 := Nat.eq_of_beq_eq_true hb.1
        have b2 := Nat.le_of_ble_eq_true hb.2
        have hks' : ∀ k ∈ keysL (cells (ev c.gl s x)), k ∈ ks := fun k hk => hks k (by unfold evParts keysP; exact List.mem_append_left _ hk)
        have d1' : RepDL w (frzF ks s.hp M F) ds (a.eval x).cells.toList := RepDL.mono (fun b hb => frzF_mono hks' hb) (fun _ _ => rfl) _ _ d1
        have hl1 := RepDL.len _ _ d1'
        have hl2 := RepDL.len _ _ hr
        have hfl := flat_len rows hok
        have hbd : i * sz + sz ≤ rows.length * sz := by
          have := Nat.mul_le_mul_right sz (show i + 1 ≤ rows.length by omega)
          rwa [Nat.add_mul, Nat.one_mul] at this
        have esz : (a.eval x).cells.size = sz := by simp at hl1; omega
        rw [hfl, Array.length_toList] at hl2
        have hfold := fold_arr (i * sz) (a.eval x).cells cur (by omega)
        rw [esz] at hfold
        have hset := flat_set rows i ds hok (by omega) b1
        have hr' : RepDL w (frzF ks s.hp M F) (rows.set i ds).flatten ((a.eval x).cells.zipIdx.foldl (fun cs (x : Value × Nat) => cs.setIfInBounds (i * sz + x.2) x.1) cur).toList := by
          rw [hfold, hset]
          exact ((hr.take (i * sz)).app d1').app (hr.drop (i * sz + sz))
        obtain ⟨rows', cur', k1, k2, k3, k4, k5, k6⟩ := fill_rows ps (rows.set i ds) _ (fun p hp => hx p (by simp [hp])) h (fun k hk => hks k (by unfold evParts keysP; exact List.mem_append_right _ hk))
          (fun r hr => by
            rcases List.mem_or_eq_of_mem_set hr with hr | hr
            · exact hok r hr
            · rw [hr]; exact b1) hr' (fun y hy => by
            rw [hset, List.append_assoc, List.mem_append, List.mem_append] at hy
            rcases hy with hy | hy | hy
            · exact h1 y (List.mem_of_mem_take hy)
            · exact d2 y hy
            · exact h1 y (List.mem_of_mem_drop hy)) hK
        refine ⟨rows', cur', ?_, k2, by rw [k3]; simp, k4, k5, k6⟩
        rw [List.map_cons, Instr.fill]
        simp only
        have e2 : ¬ (i * sz + sz > cur.size) := by omega
        simp only [esz, ne_eq, not_true_eq_false, decide_false, Bool.false_or]
        rw [if_neg (by simpa using e2)]
        exact k1

/-- the elements of a literal, which need not be data -/
theorem fill_own : ∀ (ps : List (Nat × Operand)) (cs : List AV) (cur : Array Value), (∀ p ∈ ps, ∀ t, p.2 = .tmp t → t < N) → Rel c N F M s a w →
    RepML w F M cs cur.toList → ones cs = true → ∀ {K : List AV → Prop}, fillO (evParts c.gl s ps) cs K →
    ∃ cs' cur', Instr.fill (fun i => some (i * 1, 1)) cur (ps.map fun p => (p.1, a.eval p.2)) = some cur' ∧ cs'.length = cs.length ∧ RepML w F M cs' cur'.toList ∧ ones cs' = true ∧ K cs'
  | [], cs, cur, _, h, hr, h1, K, hK => ⟨cs, cur, rfl, rfl, hr, h1, by unfold evParts fillO at hK; rw [forceL_eq] at hK; exact hK⟩
  | (i, x) :: ps, cs, cur, hx, h, hr, h1, K, hK => by
      unfold evParts fillO at hK
      rw [force_eq] at hK
      have hv := h.ev x (hx (i, x) (by simp))
      generalize ev c.gl s x = ax at hv hK
      rw [lenL_eq] at hK
      cases hb : and (one ax) (Nat.ble (i + 1) cs.length) with
      | false => rw [hb] at hK; exact hK.elim
      | true =>
        rw [hb] at hK
        simp only [Bool.and_eq_true] at hb
        have b2 := Nat.le_of_ble_eq_true hb.2
        have hcx : cells ax = [ax] := by cases ax <;> first | rfl | (simp [one] at hb)
        have hc := cells_rep (av := ax) (v := a.eval x) (by rw [hcx]; simp only [ones, hb.1]; rfl) hv
        rw [hcx] at hc
        have hl1 := RepML.len _ _ hc.1
        have hl2 := RepML.len _ _ hr
        have esz : (a.eval x).cells.size = 1 := by simpa using hl1
        rw [Array.length_toList] at hl2
        have hfold := fold_arr (i * 1) (a.eval x).cells cur (by omega)
        rw [esz] at hfold
        have hset : cs.set i ax = cs.take (i * 1) ++ [ax] ++ cs.drop (i * 1 + 1) := by
          rw [Nat.mul_one, List.set_eq_take_append_cons_drop, if_pos (by omega)]; simp
        have hr' : RepML w F M (cs.set i ax) ((a.eval x).cells.zipIdx.foldl (fun cs (x : Value × Nat) => cs.setIfInBounds (i * 1 + x.2) x.1) cur).toList := by
          rw [hfold, hset]
          exact ((hr.take (i * 1)).app hc.1).app (hr.drop (i * 1 + 1))
        have h1' : ones (cs.set i ax) = true := ones_all fun y hy => by
          rcases List.mem_or_eq_of_mem_set hy with hy | hy
          · exact ones_mem h1 y hy
          · rw [hy]; exact hb.1
        obtain ⟨cs', cur', k1, k2, k3, k4, k5⟩ := fill_own ps (cs.set i ax) _ (fun p hp => hx p (by simp [hp])) h hr' h1' hK
        refine ⟨cs', cur', ?_, by rw [k2]; simp, k3, k4, k5⟩
        rw [List.map_cons, Instr.fill]
        simp only
        have e2 : ¬ (i * 1 + 1 > cur.size) := by omega
        simp only [esz, ne_eq, not_true_eq_false, decide_false, Bool.false_or]
        rw [if_neg (by simpa using e2)]
        exact k1

theorem op_buildSlice {t : TypeId} {n : Nat} {ps : Array (Nat × Operand)} (ho : o.op = .buildSlice t n ps) (hT : TOk P c.T) (h : Rel c N F M s a w) (hd : ∀ t, o.dst = some t → t < N) (hx : ∀ p ∈ ps.toList, ∀ t, p.2 = .tmp t → t < N)
    (hK : aBuildSlice c.T t n (evParts c.gl s ps.toList) s fun v s' => K (Ab.put o.dst v s')) : o.wpIn (Fw ro) 0 P a w (Post c N F M w K) Q := by
  unfold aBuildSlice at hK
  cases hsl : (look c.T t).bind fun i => i.sl with
  | none => rw [hsl] at hK; exact hK.elim
  | some et =>
    rw [hsl] at hK
    simp only at hK
    cases he : look c.T et with
    | none => rw [he] at hK; exact hK.elim
    | some e =>
      rw [he] at hK
      simp only at hK
      obtain ⟨et', ti, z, hu, hi, hz, hsz, hby, hzv, hzs⟩ := hT.elem (t := t) (e := e) (by rw [hsl]; exact he)
      have : et' = et := by
        cases hl : look c.T t with
        | none => simp [hl] at hsl
        | some i =>
          obtain ⟨_, d, _, _, hu', _, _, _, _, hsl', _⟩ := hT.parts hl
          rw [hl] at hsl
          rw [hsl' et hsl] at hu'
          rw [hu'] at hu; cases hu; rfl
      subst this
      cases hesl : e.sl with
      | some est =>
        rw [hesl] at hK
        simp only at hK
        cases hev : e.zv with
        | nil =>
          rw [hev] at hK
          simp only at hK
          cases hb : Nat.ble n 65536 with
          | false => rw [hb] at hK; exact hK.elim
          | true =>
            rw [hb] at hK
            have b3 := Nat.le_of_ble_eq_true hb
            have hzn : z = .slice none 0 0 := ofV_nil (by rw [← hzv, hev])
            have hs1 : e.sz = 1 := by rw [← hzs, hzn]; rfl
            have hzc : z.cells = #[.slice none 0 0] := by rw [hzn]; rfl
            obtain ⟨cs', cur', k1, k3, k4, k5, k6⟩ := fill_own ps.toList (List.replicate n .nil) (madeCells z.cells n) hx h
              (RepML_nils _ _ (by simp [size_madeCells]) (by rw [hzc]; exact made_nil)) (ones_nils _) hK
            have hlen : cs'.length = n := by rw [k3]; simp
            have hcl : cur'.toList.length = n := by have := RepML.len _ _ k4; omega
            obtain ⟨M', g1, g2, g3⟩ := h.toHR.newOwn (cs := cs') (vs := cur'.toList) (cap := n) (et := et') (by rw [hlen, ← hcl, List.take_length]; exact k4) k5 (by omega) (by simp only [maxLen]; omega) hcl
            refine wp_next h hd g1 g2 (v := .slice (some ⟨w.heap.size, 0, none⟩) n n) ?_ ?_ k6
            · have hs : (Go.sizeOf et').run P w = .ok e.sz w := by simp [Go.sizeOf, typeInfo, hi, hsz]
              have hzr : (zeroValue et').run P w = .ok z w := by simp [zeroValue, typeInfo, hi, hz]
              rw [hs1] at hs
              by_cases h0 : n = 0
              · have hm0 : madeCells z.cells n = #[] := by rw [h0]; simp [madeCells]
                rw [hm0] at k1
                subst h0
                simp at k1
                simp [execOp, ho, Instr.buildSlice, run_underlying hu, hs, k1, newRow, Array.range_zero']
              · have k1' := k1
                unfold madeCells at k1'
                simp at k1'
                simp [execOp, ho, Instr.buildSlice, run_underlying hu, hs, h0, hzr, Nat.not_lt.2 (show n ≤ 16777216 by omega), k1', newRow]
            · unfold RepM
              exact ⟨_, g3, .inl ⟨by simp, by simp⟩⟩
        | _ => rw [hev] at hK; exact hK.elim
      | none =>
      rw [hesl] at hK
      simp only at hK
      rw [hzv] at hK
      obtain ⟨row, r1, r2, r3, hK⟩ := zero_row h.toHR hK
      rw [lenL_eq] at hK
      cases hb : and (and (Nat.ble 1 e.sz) (Nat.beq row.length e.sz)) (Nat.ble (n * e.sz) 65536) with
      | false => rw [hb] at hK; exact hK.elim
      | true =>
        rw [hb] at hK
        simp only [Bool.and_eq_true] at hb
        have b1 := Nat.le_of_ble_eq_true hb.1.1
        have b2 := Nat.eq_of_beq_eq_true hb.1.2
        have b3 := Nat.le_of_ble_eq_true hb.2
        simp only at hK
        obtain ⟨f1, f2⟩ := h.toHR.freeze (keysP (evParts c.gl s ps.toList))
        have hrep := repl_rep r1 b2 (by omega) n
        have hrep' := RepDL.mono f2.foot f2.cell _ _ hrep
        obtain ⟨rows', cur', k1, k2, k3, k4, k5, k6⟩ := fill_rows (ks := keysP (evParts c.gl s ps.toList)) (sz := e.sz) ps.toList (List.replicate n row) (madeCells z.cells (n * e.sz)) hx h (fun k hk => hk)
          (fun q hq => by rw [List.eq_of_mem_replicate hq]; exact b2) hrep' (fun x hx => by
            rw [List.mem_flatten] at hx
            obtain ⟨l, hl, hx⟩ := hx
            rw [List.eq_of_mem_replicate hl] at hx
            exact r2 x hx) hK
        have hlen : rows'.length = n := by rw [k3]; simp
        have hcl : cur'.toList.length = n * e.sz := by rw [RepDL.len _ _ k4, flat_len rows' k2, hlen]
        have hnm : n ≤ maxLen := by
          have : n ≤ n * e.sz := Nat.le_mul_of_pos_right _ (by omega)
          simp only [maxLen]; omega
        obtain ⟨M', g1, g2, g3⟩ := f1.newArr (rows := rows') (vs := cur'.toList) (sz := e.sz) (cap := n) (et := et') (by rw [hlen, ← hcl, List.take_length]; exact k4) k5 k2 (by omega) (by omega) hnm hcl
        refine wp_next h hd g1 (f2.trans g2) (v := .slice (some ⟨w.heap.size, 0, none⟩) n n) ?_ ?_ k6
        · have hs : (Go.sizeOf et').run P w = .ok e.sz w := by simp [Go.sizeOf, typeInfo, hi, hsz]
          have hzr : (zeroValue et').run P w = .ok z w := by simp [zeroValue, typeInfo, hi, hz]
          have hnot : ¬ (n * e.sz > 2 ^ 24) := by omega
          have e2 : (ps.map fun (x : Nat × Operand) => (x.1, a.eval x.2)).toList = ps.toList.map fun p => (p.1, a.eval p.2) := by simp
          have hmade : (if n * e.sz = 0 then (madeCells #[] (n * e.sz)) else madeCells z.cells (n * e.sz)) = madeCells z.cells (n * e.sz) := by
            split
            · rename_i h0; rw [h0]; simp [madeCells]
            · rfl
          by_cases h0 : n * e.sz = 0
          · have hm0 : madeCells z.cells (n * e.sz) = #[] := by rw [h0]; simp [madeCells]
            rw [hm0] at k1
            have hn0 : n = 0 := by
              rcases Nat.mul_eq_zero.1 h0 with h | h
              · exact h
              · omega
            subst hn0
            simp [execOp, ho, Instr.buildSlice, run_underlying hu, hs, k1, newRow, Array.range_zero']
          · have k1' := k1
            unfold madeCells at k1'
            simp [execOp, ho, Instr.buildSlice, run_underlying hu, hs, h0, hzr, Nat.not_lt.2 (show n * e.sz ≤ 16777216 by omega), k1', newRow]
        · unfold RepM
          exact ⟨_, g3, .inl ⟨by simp, by simp⟩⟩
end
end Ab
