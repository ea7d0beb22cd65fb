import Derived.Test.YtbcgkonhkoopnaaGreatXOp4
import Derived.ArgAppend
/-!
Soundness of append and copy.
-/
namespace Ab
open Go Go.RowKit

section
variable {c : Ctx} {ro : Option Nat} {N : Nat} {F F' : Foot} {M M' : Nat → Option MB} {s : St} {a : Act} {w w' : World} {P : Program} {o : Oper} {K : St → Prop} {Q : Exit → Act → World → Prop}

theorem RepC.vals {b : Nat} : ∀ (row : List AV) (off : Nat), RepC w F b row off → ∃ vs : List Value, vs.length = row.length ∧ RepDL w F row vs ∧ (∀ x ∈ row, one x = true) ∧ ∀ j u, vs[j]? = some u → w.cell? ⟨b, off + j, none⟩ = some u
  | [], off, _ => ⟨[], rfl, by unfold RepDL; rfl, by simp, by simp⟩
  | x :: row, off, h => by
      unfold RepC at h
      obtain ⟨⟨h0, v, h1, h2⟩, h3⟩ := h
      obtain ⟨vs, g1, g2, g3, g4⟩ := RepC.vals row (off + 1) h3
      refine ⟨v :: vs, by simp [g1], by unfold RepDL; exact ⟨v, vs, rfl, h2, g2⟩, ?_, fun j u hu => ?_⟩
      · intro y hy
        rcases List.mem_cons.1 hy with rfl | hy
        · exact h0
        · exact g3 y hy
      · cases j with
        | zero => simp at hu; subst hu; simpa using h1
        | succ j =>
          have := g4 j u (by simpa using hu)
          rwa [show off + (j + 1) = off + 1 + j by omega]

theorem RepR.vals {b sz : Nat} : ∀ (rows : List (List AV)) (off : Nat), RepR w F b sz rows off → ∃ vs : List Value, vs.length = rows.length * sz ∧ RepDL w F rows.flatten vs ∧ (∀ x ∈ rows.flatten, one x = true) ∧ ∀ j u, vs[j]? = some u → w.cell? ⟨b, off + j, none⟩ = some u
  | [], off, _ => ⟨[], by simp, by simp [RepDL], by simp, by simp⟩
  | r :: rs, off, h => by
      unfold RepR at h
      obtain ⟨h0, h1, h2⟩ := h
      obtain ⟨vs, g1, g2, g3, g4⟩ := RepC.vals r off h1
      obtain ⟨us, k1, k2, k3, k4⟩ := RepR.vals rs (off + sz) h2
      refine ⟨vs ++ us, by simp [g1, k1, h0, Nat.add_mul]; omega, by rw [List.flatten_cons]; exact g2.app k2, ?_, fun j u hu => ?_⟩
      · intro x hx
        rw [List.flatten_cons, List.mem_append] at hx
        rcases hx with hx | hx
        · exact g3 x hx
        · exact k3 x hx
      · by_cases hj : j < vs.length
        · rw [List.getElem?_append_left hj] at hu; exact g4 j u hu
        · rw [List.getElem?_append_right (by omega)] at hu
          have := k4 _ u hu
          rwa [show off + sz + (j - vs.length) = off + j by omega] at this

theorem cells_one {l : List AV} {vs : List Value} (h : RepDL w F l vs) (h1 : ∀ x ∈ l, one x = true) : ∀ u ∈ vs, u.oneCell' = true := by
  intro u hu
  obtain ⟨j, hj⟩ := List.getElem?_of_mem hu
  have hl := RepDL.len _ _ h
  have hlt : j < l.length := by
    rcases Nat.lt_or_ge j vs.length with h' | h'
    · omega
    · rw [List.getElem?_eq_none h'] at hj; cases hj
  obtain ⟨v, e1, e2⟩ := RepDL.get _ _ j l[j] h (List.getElem?_eq_getElem hlt)
  rw [hj] at e1; cases e1
  exact (one_cell (M := fun _ => none) (h1 _ (List.getElem_mem hlt)) (RepM.of_D _ _ e2)).1

/-- the elements that are appended or copied -/
theorem rowsOf_sound (h : Rel c N F M s a w) {y : AV} {v : Value} (hv : RepM w F M y v) {sz : Nat} {K' : List (List AV) → Prop} (hK : rowsOf s.hp sz y K') :
    ∃ rows p cp news F1, v = .slice p rows.length cp ∧ RowsOk sz rows ∧ news.length = rows.length * sz ∧ RepDL w F1 rows.flatten news ∧ (∀ x ∈ rows.flatten, one x = true) ∧ (F1 = F) ∧
      (rows = [] ∨ ∃ b off, p = some ⟨b, off, none⟩ ∧ ∀ j u, news[j]? = some u → w.cell? ⟨b, off + j, none⟩ = some u) ∧ K' rows := by
  cases y with
  | nil =>
    unfold RepM at hv
    exact ⟨[], none, 0, [], F, hv, (fun r hr => by cases hr), by simp, by simp [RepDL], by simp, rfl, .inl rfl, hK⟩
  | sl rows =>
    obtain ⟨hok, hK⟩ := hK
    unfold RepM RepD at hv
    obtain ⟨p, cp, h1, h2, h3, h4⟩ := hv
    rcases h4 with rfl | ⟨b, off, sz', h4, h5, h6⟩
    · exact ⟨[], p, cp, [], F, h1, hok, by simp, by simp [RepDL], by simp, rfl, .inl rfl, hK⟩
    · by_cases hr : rows = []
      · subst hr
        exact ⟨[], p, cp, [], F, h1, hok, by simp, by simp [RepDL], by simp, rfl, .inl rfl, hK⟩
      · obtain ⟨row, hrow⟩ := List.exists_mem_of_ne_nil rows hr
        have : sz' = sz := by rw [← hok row hrow, RepR.rowlen h6 row hrow]
        subst this
        obtain ⟨vs, g1, g2, g3, g4⟩ := RepR.vals rows off h6
        exact ⟨rows, p, cp, vs, F, h1, hok, g1, g2, g3, rfl, .inr ⟨b, off, h4, g4⟩, hK⟩
  | ms k off n =>
    simp only [rowsOf] at hK
    cases hb : s.hp k with
    | none => rw [hb] at hK; exact hK.elim
    | some blk =>
      cases blk with
      | res => first | exact hK.elim | (rw [hb] at hK; exact hK.elim) | exact h.elim | (rw [hb] at h; exact h.elim) | (rw [hb] at hK2; exact hK2.elim) | (rw [hb] at hK; simp only at hK; exact hK.elim) | exact Sel.no | exact Gives.none | exact Give2.none | exact toDB_ok hp (.ms k off len) | (have := Sel.toD (hp := hp) (.ms k off len); exact this) | exact .inl rfl | (cases hK; done) | (cases h; done)
      | box _ => rw [hb] at hK; exact hK.elim
      | own _ _ => rw [hb] at hK; exact hK.elim
      | arr sz' rows lv =>
        rw [hb] at hK
        simp only at hK
        cases hq : Nat.beq sz sz'.2 with
        | false => rw [hq] at hK; exact hK.elim
        | true =>
          rw [hq] at hK
          simp only at hK
          have hq := Nat.eq_of_beq_eq_true hq
          obtain ⟨hle, hK⟩ := hK
          obtain ⟨m, f1, f2, _, _, _, _, f6, _, f8⟩ := h.arr k sz' rows lv hb
          have hms : m.sz = sz := by rw [hq, ← f2]
          have hr := RepR.sub rows 0 off n f8
          rw [Nat.zero_add] at hr
          have hlen : ((rows.drop off).take n).length = n := by simp; omega
          obtain ⟨vs, g1, g2, g3, g4⟩ := RepR.vals _ _ hr
          have hok : RowsOk sz ((rows.drop off).take n) := fun row hrow => by rw [← hms]; exact RepR.rowlen hr row hrow
          unfold RepM at hv
          obtain ⟨m', h1, h2⟩ := hv
          rw [f1] at h1; cases h1
          rcases h2 with ⟨h2, h3⟩ | ⟨h2, h3, p, cp, h4, _⟩
          · exact ⟨_, _, _, vs, F, by rw [hlen]; exact h2, hok, by rw [g1, hms], g2, g3, rfl, .inr ⟨m.b, off * m.sz, rfl, g4⟩, hK⟩
          · exact ⟨_, p, cp, vs, F, by rw [hlen, h2]; exact h4, hok, by rw [g1, hms], g2, g3, rfl, .inl (List.eq_nil_of_length_eq_zero (by rw [hlen]; exact h2)), hK⟩
  | _ => exact hK.elim

theorem run_append_nothing' {t ty e : TypeId} {i : TypeInfo} (ht : P.underlying t = some (.slice e)) (hi : P.info? e = some i) (base p : Option Addr) (sLen sCap cp : Nat) (hle : sLen ≤ sCap) :
    (Builtin.append_ #[t, t] ty #[.slice base sLen sCap, .slice p 0 cp]).run P w = .ok (.slice base sLen sCap) w := by
  cases base <;> cases p <;> simp [Builtin.append_, run_underlying ht, Go.sizeOf, typeInfo, hi, Builtin.lenOf, hle, Builtin.firstCells, loadCells, loadCellsFrom, storeCells]

theorem RepR.mono' {M M' : Nat → Option MB} (t : Tr F M w F' M' w) {b sz : Nat} {rows : List (List AV)} {o : Nat} (h : RepR w F b sz rows o) : RepR w F' b sz rows o :=
  RepR.keep t.foot (fun _ _ => rfl) rfl rows o h

theorem ownsRow_flat {base e sz : Nat} {g n cap : Nat} {rows : List (List AV)} {xs : List Value} (h : w.ownsRow base e sz (.slice (some ⟨g, 0, none⟩) n cap) n xs) (hok : RowsOk sz rows) (hv : RepDL w F rows.flatten xs) (h1 : ∀ x ∈ rows.flatten, one x = true) :
    RepR w F g sz rows 0 := by
  refine RepR_flat rows xs 0 hok hv h1 fun j v hj => ?_
  have := h.cells (g := g) rfl j v hj
  rwa [Addr.add_lit] at this

theorem RepMC.sub {b : Nat} : ∀ (l : List AV) (o n k : Nat), RepMC w F M b l o → RepMC w F M b ((l.drop n).take k) (o + n)
  | [], o, n, k, _ => by simp [RepMC]
  | r :: rs, o, 0, 0, _ => by simp [RepMC]
  | r :: rs, o, 0, k + 1, h => by
      unfold RepMC at h
      simp only [List.drop_zero, List.take_succ_cons, Nat.add_zero]
      unfold RepMC
      have := RepMC.sub rs (o + 1) 0 k h.2
      simp only [List.drop_zero, Nat.add_zero] at this
      exact ⟨h.1, this⟩
  | r :: rs, o, n + 1, k, h => by
      unfold RepMC at h
      have := RepMC.sub rs (o + 1) n k h.2
      rw [List.drop_succ_cons, show o + (n + 1) = o + 1 + n by omega]
      exact this

theorem RepMC.vals {b : Nat} : ∀ (row : List AV) (off : Nat), RepMC w F M b row off → ∃ vs : List Value, vs.length = row.length ∧ RepML w F M row vs ∧ ones row = true ∧ ∀ j u, vs[j]? = some u → w.cell? ⟨b, off + j, none⟩ = some u
  | [], off, _ => ⟨[], rfl, by unfold RepML; rfl, rfl, by simp⟩
  | x :: row, off, h => by
      unfold RepMC at h
      obtain ⟨⟨h0, v, h1, h2⟩, h3⟩ := h
      obtain ⟨vs, g1, g2, g3, g4⟩ := RepMC.vals row (off + 1) h3
      refine ⟨v :: vs, by simp [g1], by unfold RepML; exact ⟨v, vs, rfl, h2, g2⟩, by simp only [ones, h0, g3]; rfl, fun j u hu => ?_⟩
      cases j with
      | zero => simp at hu; subst hu; simpa using h1
      | succ j =>
        have := g4 j u (by simpa using hu)
        rwa [show off + (j + 1) = off + 1 + j by omega]

theorem ones_all : ∀ {l : List AV}, (∀ x ∈ l, one x = true) → ones l = true
  | [], _ => rfl
  | x :: l, h => by
      have h1 := ones_all (l := l) fun y hy => h y (List.mem_cons_of_mem _ hy)
      have h2 := h x (by simp)
      simp only [ones, h1, h2]; rfl
theorem ones_app : ∀ {l m : List AV}, ones l = true → ones m = true → ones (l ++ m) = true
  | [], _, _, h => h
  | x :: l, m, h, g => by
      simp only [ones, Bool.and_eq_true] at h
      simp only [List.cons_append, ones, h.1, ones_app h.2 g]; rfl
theorem RepML.app' : ∀ {l m : List AV} {vs us : List Value}, RepML w F M l vs → RepML w F M m us → RepML w F M (l ++ m) (vs ++ us)
  | [], _, _, _, h, g => by unfold RepML at h; subst h; exact g
  | x :: l, m, vs, us, h, g => by
      unfold RepML at h
      obtain ⟨v, vs', rfl, h1, h2⟩ := h
      rw [List.cons_append, List.cons_append]
      unfold RepML
      exact ⟨v, vs' ++ us, rfl, h1, RepML.app' h2 g⟩

theorem cells_oneM : ∀ (l : List AV) (vs : List Value), RepML w F M l vs → ones l = true → ∀ u ∈ vs, u.oneCell' = true
  | [], vs, h, _ => by unfold RepML at h; subst h; simp
  | x :: l, vs, h, h1 => by
      unfold RepML at h
      obtain ⟨v, vs', rfl, h2, h3⟩ := h
      simp only [ones, Bool.and_eq_true] at h1
      intro u hu
      rcases List.mem_cons.1 hu with rfl | hu
      · exact (one_cell h1.1 h2).1
      · exact cells_oneM l vs' h3 h1.2 u hu

/-- the elements of one cell that are appended -/
theorem cellsOf_sound (h : Rel c N F M s a w) {y : AV} {v : Value} (hv : RepM w F M y v) {K' : List AV → Prop} (hK : cellsOf s.hp y K') :
    ∃ cs p cp news, v = .slice p cs.length cp ∧ news.length = cs.length ∧ RepML w F M cs news ∧ ones cs = true ∧
      (cs = [] ∨ ∃ b off, p = some ⟨b, off, none⟩ ∧ ∀ j u, news[j]? = some u → w.cell? ⟨b, off + j, none⟩ = some u) ∧ K' cs := by
  have viaRows : ∀ {K'' : List (List AV) → Prop}, rowsOf s.hp 1 y K'' → (∀ rows, K'' rows → K' rows.flatten) →
      ∃ cs p cp news, v = .slice p cs.length cp ∧ news.length = cs.length ∧ RepML w F M cs news ∧ ones cs = true ∧
      (cs = [] ∨ ∃ b off, p = some ⟨b, off, none⟩ ∧ ∀ j u, news[j]? = some u → w.cell? ⟨b, off + j, none⟩ = some u) ∧ K' cs := by
    intro K'' hr hk
    obtain ⟨rows, p, cp, news, F1, g1, g2, g3, g4, g5, rfl, g6, g7⟩ := rowsOf_sound h hv hr
    have hfl := flat_len rows g2
    rw [Nat.mul_one] at hfl g3
    refine ⟨rows.flatten, p, cp, news, by rw [hfl]; exact g1, by rw [hfl]; exact g3, RepML.of_D _ _ g4, ones_all g5, ?_, hk rows g7⟩
    rcases g6 with g6 | g6
    · subst g6; exact .inl rfl
    · exact .inr g6
  cases y with
  | nil => exact viaRows (K'' := fun rows => K' rows.flatten) hK fun _ h => h
  | sl rows => exact viaRows (K'' := fun rows => K' rows.flatten) hK fun _ h => h
  | ms k off n =>
    simp only [cellsOf] at hK
    cases hb : s.hp k with
    | none => rw [hb] at hK; exact hK.elim
    | some blk =>
      rw [hb] at hK
      cases blk with
      | res => first | exact hK.elim | (rw [hb] at hK; exact hK.elim) | exact h.elim | (rw [hb] at h; exact h.elim) | (rw [hb] at hK2; exact hK2.elim) | (rw [hb] at hK; simp only at hK; exact hK.elim) | exact Sel.no | exact Gives.none | exact Give2.none | exact toDB_ok hp (.ms k off len) | (have := Sel.toD (hp := hp) (.ms k off len); exact this) | exact .inl rfl | (cases hK; done) | (cases h; done)
      | box _ => exact hK.elim
      | arr sz rows lv =>
        simp only at hK
        cases hq : Nat.beq 1 sz.2 with
        | false => rw [hq] at hK; exact hK.elim
        | true =>
          rw [hq] at hK
          refine viaRows (K'' := fun rows => K' rows.flatten) ?_ fun _ h => h
          simp only [rowsOf, hb, hq]
          exact hK
      | own et cs =>
        simp only [forceL_eq] at hK
        obtain ⟨hl, hK⟩ := hK
        obtain ⟨m, f1, f2, _, _, _, f6, f7⟩ := h.own k et cs hb
        have hs := RepMC.sub cs 0 off n f7
        rw [Nat.zero_add] at hs
        obtain ⟨vs, g1, g2, g3, g4⟩ := RepMC.vals _ _ hs
        have hlen : ((cs.drop off).take n).length = n := by simp; omega
        unfold RepM at hv
        obtain ⟨m', e1, e2⟩ := hv
        rw [f1] at e1; cases e1
        rcases e2 with ⟨e2, e3⟩ | ⟨e2, e3, p, cp, e4, _⟩
        · exact ⟨_, _, _, vs, by rw [hlen]; exact e2, g1, g2, g3, .inr ⟨m.b, off * m.sz, rfl, by rw [f2.2, Nat.mul_one]; exact g4⟩, hK⟩
        · exact ⟨_, p, cp, vs, by rw [hlen, e2]; exact e4, g1, g2, g3, .inl (List.eq_nil_of_length_eq_zero (by rw [hlen]; exact e2)), hK⟩
  | _ => exact hK.elim

theorem op_appendO {x y : Operand} {args : Array Operand} {ts : Array TypeId} {t et : TypeId} {ti : TypeInfo} {z : Value} {by_ : Nat} (ha : args = #[x, y]) (hts : ts = #[t, t]) (ho : o.op = .call { callee := .builtin .append, args := args, argTypes := ts })
    (h : Rel c N F M s a w) (hd : ∀ t, o.dst = some t → t < N) {ax ay : AV} (hx' : RepM w F M ax (a.eval x)) (hy' : RepM w F M ay (a.eval y))
    (hu : P.underlying t = some (.slice et)) (hi : P.info? et = some ti) (hz : ti.zero = some z) (hsz : 1 = ti.size) (hby : by_ = ti.bytes) (hzs : z.cells.size = 1)
    (hK : aAppendO et by_ ax ay s fun v s' => K (Ab.put o.dst v s')) : o.wpIn (Fw ro) 0 P a w (Post c N F M w K) Q := by
  have hrun : ∀ {v' : Value} {w' : World}, (Builtin.append_ #[t, t] o.type #[a.eval x, a.eval y]).run P w = .ok v' w' → (execOp a.eval o).run P w = .ok (.value v') w' := by
    intro v' w' hr
    simp [execOp, ho, ha, hts, resolve, invoke, builtin, hr, Result.andThen]
  have hm : ((maxLen : Nat) : Int) = 9223372036854775807 := by simp [maxLen]
  unfold aAppendO at hK
  cases ax with
  | nil =>
    simp only at hK
    unfold RepM at hx'
    have main : cellsOf s.hp ay (fun cs => cs ≠ [] ∧ cs.length * by_ ≤ 140737488355328 ∧ cs.length ≤ maxLen ∧ K (Ab.put o.dst (.ms s.nx 0 cs.length) (Ab.alloc (.own et cs) s))) → o.wpIn (Fw ro) 0 P a w (Post c N F M w K) Q := by
      intro hK
      obtain ⟨cs, p, cp, news, g1, g3, g4, g5, g6, hne, hb1, hb2, hK⟩ := cellsOf_sound h hy' hK
      obtain ⟨b, off, rfl, g7⟩ := g6.resolve_left hne
      have hn : 0 < cs.length := List.length_pos_iff.2 hne
      have hrn := run_append_nil (P := P) (w := w) t o.type et ti z hu hi hz ⟨b, off, none⟩ cs.length cp news (by rw [g3, ← hsz, Nat.mul_one]) (fun j u hj => by rw [Addr.add_lit]; exact g7 j u hj) hn (by omega) (by rw [← hby]; omega)
      generalize hcap : grownCap w cs.length 0 et = cap at hrn
      have hge : cs.length ≤ cap := by rw [← hcap]; exact grownCap_ge w _ _ _
      have hle : cap ≤ maxLen := by rw [← hcap]; exact grownCap_le_maxLen w _ _ _ hb2
      have hzl := size_zeroCells z.cells (cap - cs.length)
      generalize hz' : Builtin.zeroCells z.cells (cap - cs.length) = zs at hrn hzl
      have hdr : HR c F M s.hp s.nx w.drew := (h.toHR.keep (w' := w.drew) (F' := F) (fun _ _ => rfl) (fun _ h => h) (fun _ h => .inl h) h.fl h.bel.drew).1
      have htd : Tr F M w F M w.drew := (h.toHR.keep (w' := w.drew) (F' := F) (fun _ _ => rfl) (fun _ h => h) (fun _ h => .inl h) h.fl h.bel.drew).2
      obtain ⟨M', k1, k2, k3⟩ := hdr.newOwn (cs := cs) (vs := news ++ zs.toList) (cap := cap) (et := et)
        (by rw [← g3, List.take_left]; exact g4.tr htd) g5 hge hle (by
          rw [List.length_append, g3]; simp only [Array.length_toList, hzl, hzs]; omega)
      have harr : (⟨news ++ zs.toList⟩ : Array Value) = news.toArray ++ zs := by apply Array.ext'; simp
      rw [harr] at k1 k2
      refine wp_next h hd k1 (htd.trans k2) (hrun (by rw [hx', g1]; exact hrn)) ?_ hK
      unfold RepM
      exact ⟨_, k3, .inl ⟨by simp, by simp; omega⟩⟩
    cases ay with
    | nil =>
      unfold RepM at hy'
      refine wp_pure h hd (hrun (v' := .slice none 0 0) (w' := w) ?_) (by unfold RepM; rfl) hK
      rw [hx', hy']
      exact run_append_nothing' hu hi none none 0 0 0 (Nat.le_refl _)
    | _ => exact main hK
  | ms k off n =>
    cases off with
    | succ off => exact hK.elim
    | zero =>
      simp only at hK
      cases hb : s.hp k with
      | none => rw [hb] at hK; exact hK.elim
      | some blk =>
        cases blk with
        | res => first | exact hK.elim | (rw [hb] at hK; exact hK.elim) | exact h.elim | (rw [hb] at h; exact h.elim) | (rw [hb] at hK2; exact hK2.elim) | (rw [hb] at hK; simp only at hK; exact hK.elim) | exact Sel.no | exact Gives.none | exact Give2.none | exact toDB_ok hp (.ms k off len) | (have := Sel.toD (hp := hp) (.ms k off len); exact this) | exact .inl rfl | (cases hK; done) | (cases h; done)
        | box _ => rw [hb] at hK; exact hK.elim
        | arr _ _ _ => rw [hb] at hK; exact hK.elim
        | own et' cs =>
          rw [hb] at hK
          simp only at hK
          cases hq : Nat.beq et' et with
          | false => rw [hq] at hK; exact hK.elim
          | true =>
            rw [hq] at hK
            have hq := Nat.eq_of_beq_eq_true hq
            subst hq
            obtain ⟨hn, hK⟩ := hK
            simp only [forceL_eq, appL_eq] at hK
            obtain ⟨cs', p, cp, news, g1, g3, g4, g5, g6, hb1, hb2, hK⟩ := cellsOf_sound h hy' hK
            obtain ⟨m, f1, f2, f3, f4, f6, f7, f9⟩ := h.own k et' cs hb
            have hme : m.e = et' := f2.1
            have hms : m.sz = 1 := f2.2
            have hold : ∀ j, some k = some j → s.hp j ≠ none ∧ ∀ mk, M j = some mk → ¬ F mk.b := by
              intro j hj; cases hj
              exact ⟨by rw [hb]; simp, fun mk hmk => by rw [f1] at hmk; cases hmk; exact f4⟩
            unfold RepM at hx'
            obtain ⟨m', h1, h2⟩ := hx'
            rw [f1] at h1; cases h1
            rcases h2 with ⟨h2, h3⟩ | ⟨_, h3, _⟩
            case inr => omega
            obtain ⟨olds, o1, o2, o3, o4⟩ := RepMC.vals cs 0 f9
            have hones := ones_app o3 g5
            have hnews1 := cells_oneM _ _ g4 g5
            have hev : a.eval x = .slice (some ⟨m.b, 0, none⟩) n m.cap := by rw [h2]; simp
            by_cases hr0 : cs' = []
            · subst hr0
              obtain ⟨k1, k2⟩ := h.toHR.grow (w' := w) (some k) (m := m) (blk := .own et' (cs ++ [])) (fun _ _ _ => rfl) (Nat.le_refl _) hold (.inr ⟨k, m, rfl, f1, rfl⟩) h.bel f6
                (fun t => ⟨f2, by simpa using f7, by rw [List.append_nil]; exact RepMC.keep t rfl cs 0 f9⟩)
              refine wp_next h hd k1 k2 (hrun (v' := .slice (some ⟨m.b, 0, none⟩) n m.cap) (w' := w) (by rw [hev, g1]; exact run_append_nothing' hu hi _ p n m.cap cp (by omega))) ?_ hK
              unfold RepM
              exact ⟨m, by simp, .inl ⟨by simp, by simp; omega⟩⟩
            · obtain ⟨b, off, rfl, g7⟩ := g6.resolve_left hr0
              obtain ⟨cur, hg, hcs⟩ := f6
              rw [hme] at hg
              have hcs' : cur.size = m.cap * 1 := by rw [hcs, hms]
              by_cases hroom : n + cs'.length ≤ m.cap
              · have hfit : n * 1 + news.length ≤ cur.size := by omega
                have hrn := run_append_room (P := P) w t o.type et' ti hu hi m.b n m.cap cur hg ⟨b, off, none⟩ cs'.length cp news (by rw [g3, ← hsz, Nat.mul_one]) (fun j u hj => by rw [Addr.add_lit]; exact g7 j u hj) hnews1 hroom (by rw [← hsz]; exact hfit)
                rw [← hsz] at hrn
                have hl : n * 1 + news.length ≤ cur.toList.length := by simpa using hfit
                have hown' : Own (w.setRow m.b (cur.toList.take (n * 1) ++ news ++ cur.toList.drop (n * 1 + news.length)).toArray) m := by
                  refine ⟨_, by rw [hme]; exact setRow_heap w m.b cur _ et' (0, 0) hg, ?_⟩
                  have := splice_len cur.toList news (n * 1) hl
                  simpa [hcs] using this
                have hcell : ∀ j, (w.setRow m.b (cur.toList.take (n * 1) ++ news ++ cur.toList.drop (n * 1 + news.length)).toArray).cell? ⟨m.b, j, none⟩ = if j < n * 1 then w.cell? ⟨m.b, j, none⟩ else if j < n * 1 + news.length then news[j - n * 1]? else w.cell? ⟨m.b, j, none⟩ := by
                  intro j
                  rw [cell_of_row _ m.b j _ et' (0, 0) (setRow_heap w m.b cur _ et' (0, 0) hg), cell_of_row w m.b j cur et' (0, 0) hg]
                  have := splice_get cur.toList news (n * 1) j hl
                  simpa using this
                generalize hw' : w.setRow m.b (cur.toList.take (n * 1) ++ news ++ cur.toList.drop (n * 1 + news.length)).toArray = w' at hrn hown' hcell
                have hoth : ∀ b, b ≠ m.b → w'.heap[b]? = w.heap[b]? := fun b hb => by rw [← hw']; exact setRow_other w m.b b _ hb
                have hsize : w'.heap.size = w.heap.size := by rw [← hw']; simp
                have hbel : Below c.w0.heap.size c.w0 w' := by
                  refine h.bel.grown (row := some m.b) ⟨?_, ?_, ?_, by omega, fun k' _ hk => hoth k' (fun e => hk (by rw [e]))⟩ h.bel.size (fun k' hk => by cases hk; exact f3) <;> (rw [← hw']; rfl)
                obtain ⟨k1, k2⟩ := h.toHR.grow (w' := w') (some k) (m := m) (blk := .own et' (cs ++ cs')) (fun b' _ hb' => hoth b' (hb' k m rfl f1)) (by omega) hold (.inr ⟨k, m, rfl, f1, rfl⟩) hbel hown'
                  (fun t => by
                    refine ⟨f2, ⟨by simp; omega, f7.2⟩, ?_⟩
                    refine RepMC_new (cs ++ cs') (olds ++ news) 0 ((o2.tr t).app' (g4.tr t)) hones fun j u hj => ?_
                    have ho1 : olds.length = n * 1 := by rw [o1, hn, Nat.mul_one]
                    rw [hcell]
                    by_cases hj1 : j < olds.length
                    · rw [List.getElem?_append_left hj1] at hj
                      rw [if_pos (by omega)]
                      exact o4 j u hj
                    · rw [List.getElem?_append_right (by omega)] at hj
                      have hj2 : j - olds.length < news.length := by
                        rcases Nat.lt_or_ge (j - olds.length) news.length with h | h
                        · exact h
                        · rw [List.getElem?_eq_none h] at hj; cases hj
                      rw [if_neg (by omega), if_pos (by omega), ← hj]; congr 1; omega)
                refine wp_next h hd k1 k2 (hrun (v' := .slice (some ⟨m.b, 0, none⟩) (n + cs'.length) m.cap) (w' := w') (by rw [hev, g1]; exact hrn)) ?_ hK
                unfold RepM
                exact ⟨m, by simp, .inl ⟨by simp, by simp; omega⟩⟩
              · obtain ⟨v', w', hrn, r1, r2⟩ := run_append_arg_grows (P := P) w t o.type et' ti z 1 by_ hu hi hz hsz.symm hby.symm hzs (by omega) ⟨m.b, 0, none⟩ n m.cap olds (by rw [o1, hn, Nat.mul_one]) (fun j u hj => by rw [Addr.add_lit]; exact o4 j u hj)
                  ⟨b, off, none⟩ cs'.length cp news (by rw [g3, Nat.mul_one]) (fun j u hj => by rw [Addr.add_lit]; exact g7 j u hj) (by omega) hb2 hb1
                have r1' := r1.2
                rcases r1' with ⟨_, h0⟩ | ⟨g, cap', cur', rfl, q1, q2, q3, q4, q5, _⟩
                · omega
                · have hbel : Below c.w0.heap.size c.w0 w' := h.bel.grown (row := none) r2 h.bel.size (fun k' hk => by cases hk)
                  obtain ⟨k1, k2⟩ := h.toHR.grow (w' := w') (some k) (m := ⟨g, 1, cap', et'⟩) (blk := .own et' (cs ++ cs')) (fun b' hb' _ => r2.block b' hb' (by simp)) r2.size hold (.inl q1) hbel ⟨cur', q2, q5⟩
                    (fun t => ⟨⟨rfl, rfl⟩, ⟨by simp; omega, q4⟩, RepMC_new (cs ++ cs') (olds ++ news) 0 ((o2.tr t).app' (g4.tr t)) hones fun j u hj => by
                      have := r1.cells (g := g) rfl j u hj
                      rwa [Addr.add_lit] at this⟩)
                  refine wp_next h hd k1 k2 (hrun (by rw [hev, g1]; exact hrn)) ?_ hK
                  unfold RepM
                  exact ⟨⟨g, 1, cap', et'⟩, by simp, .inl ⟨by simp, by simp; omega⟩⟩
  | _ => exact hK.elim

theorem op_append {x y : Operand} {args : Array Operand} {ts : Array TypeId} {t : TypeId} (ha : args = #[x, y]) (hts : ts = #[t, t]) (ho : o.op = .call { callee := .builtin .append, args := args, argTypes := ts })
    (hT : TOk P c.T) (h : Rel c N F M s a w) (hd : ∀ t, o.dst = some t → t < N) (hx : ∀ t, x = .tmp t → t < N) (hy : ∀ t, y = .tmp t → t < N)
    (hK : aAppend c.T t (ev c.gl s x) (ev c.gl s y) s fun v s' => K (Ab.put o.dst v s')) : o.wpIn (Fw ro) 0 P a w (Post c N F M w K) Q := by
  have hx' := h.ev x hx
  have hy' := h.ev y hy
  generalize ev c.gl s x = ax at hx' hK
  generalize ev c.gl s y = ay at hy' hK
  unfold aAppend at hK
  cases hsl : (look c.T t).bind fun i => i.sl with
  | none => rw [hsl] at hK; exact hK.elim
  | some et =>
    rw [hsl] at hK
    simp only at hK
    cases he : look c.T et with
    | none => rw [he] at hK; exact hK.elim
    | some e =>
      rw [he] at hK
      simp only at hK
      obtain ⟨et', ti, z, hu, hi, hz, hsz, hby, hzv, hzs⟩ := hT.elem (t := t) (e := e) (by rw [hsl]; exact he)
      have : et' = et := by
        cases hl : look c.T t with
        | none => simp [hl] at hsl
        | some i =>
          obtain ⟨_, d, _, _, hu', _, _, _, _, hsl', _⟩ := hT.parts hl
          rw [hl] at hsl
          rw [hsl' et hsl] at hu'
          rw [hu'] at hu; cases hu; rfl
      subst this
      cases h1s : Nat.ble 1 e.sz with
      | false => rw [h1s] at hK; exact hK.elim
      | true =>
        rw [h1s] at hK
        have h1s := Nat.le_of_ble_eq_true h1s
        simp only at hK
        cases hesl : e.sl with
        | some est =>
          rw [hesl] at hK
          simp only at hK
          cases he1 : Nat.beq e.sz 1 with
          | false => rw [he1] at hK; exact hK.elim
          | true =>
            rw [he1] at hK
            have he1 := Nat.eq_of_beq_eq_true he1
            exact op_appendO ha hts ho h hd hx' hy' hu hi hz (by rw [← he1, hsz]) hby (by rw [hzs, he1]) hK
        | none =>
        rw [hesl] at hK
        simp only at hK
        have hrun : ∀ {v' : Value} {w' : World}, (Builtin.append_ #[t, t] o.type #[a.eval x, a.eval y]).run P w = .ok v' w' → (execOp a.eval o).run P w = .ok (.value v') w' := by
          intro v' w' hr
          simp [execOp, ho, ha, hts, resolve, invoke, builtin, hr, Result.andThen]
        cases ax with
        | nil =>
          unfold RepM at hx'
          cases ay with
          | nil =>
            unfold RepM at hy'
            refine wp_pure h hd (hrun (v' := .slice none 0 0) (w' := w) ?_) (by unfold RepM; rfl) hK
            rw [hx', hy']
            exact run_append_nothing' hu hi none none 0 0 0 (Nat.le_refl _)
          | sl rows =>
            obtain ⟨hb1, hb2, hok, hK⟩ := hK
            obtain ⟨rows', p, cp, news, F1, g1, g2, g3, g4, g5, rfl, g6, rfl⟩ := rowsOf_sound (K' := fun r => r = rows) h hy' ⟨hok, rfl⟩
            by_cases hr : rows' = []
            · subst hr
              refine wp_pure h hd (hrun (v' := .slice none 0 0) (w' := w) ?_) ?_ hK
              · rw [hx', g1]
                exact run_append_nothing' hu hi none p 0 0 cp (Nat.le_refl _)
              · unfold RepM RepD
                exact ⟨none, 0, by simp, by simp, by simp, .inl rfl⟩
            · obtain ⟨b, off, rfl, g7⟩ := g6.resolve_left hr
              have hpos : 0 < rows'.length := List.length_pos_iff.2 hr
              have hm : ((maxLen : Nat) : Int) = 9223372036854775807 := by simp [maxLen]
              have hrn := run_append_nil (P := P) (w := w) t o.type et' ti z hu hi hz ⟨b, off, none⟩ rows'.length cp news (by rw [g3, hsz]) (fun j u hj => by rw [Addr.add_lit]; exact g7 j u hj) hpos (by omega) (by rw [← hby]; omega)
              generalize hcap : grownCap w rows'.length 0 et' = cap at hrn
              have hge : rows'.length ≤ cap := by rw [← hcap]; exact grownCap_ge w _ _ _
              have hle : cap ≤ maxLen := by rw [← hcap]; exact grownCap_le_maxLen w _ _ _ hb2
              generalize hz' : Builtin.zeroCells z.cells (cap - rows'.length) = zs at hrn
              have hbel : Below c.w0.heap.size c.w0 (w.drew.alloc (.cells (news.toArray ++ zs) et')) := (h.bel.drew).alloc h.bel.size _
              obtain ⟨k1, k2⟩ := h.toHR.keep (w' := w.drew.alloc (.cells (news.toArray ++ zs) et')) (F' := fun b => F1 b ∨ b = w.heap.size) (fun b hb => heap_alloc_old w.drew _ b hb) (fun b hb => .inl hb)
                (fun b hb => by rcases hb with hb | hb; exact .inl hb; exact .inr (by omega)) (fun b hb => by
                  rcases hb with hb | hb
                  · have := h.fl b hb; simp; omega
                  · simp [hb]) hbel
              refine wp_next h hd k1 k2 (hrun (by rw [hx', g1]; exact hrn)) ?_ hK
              unfold RepM RepD
              refine ⟨_, _, rfl, hge, hle, .inr ⟨w.heap.size, 0, e.sz, rfl, .inr rfl, ?_⟩⟩
              refine RepR_flat rows' news 0 hok (RepDL.mono k2.foot k2.cell _ _ g4) g5 fun j v hj => ?_
              rw [cell_of_row _ w.heap.size (0 + j) _ et' (0, 0) (heap_alloc_new w.drew _)]
              have hjl : j < news.length := by
                rcases Nat.lt_or_ge j news.length with h | h
                · exact h
                · rw [List.getElem?_eq_none h] at hj; cases hj
              rw [Nat.zero_add, Array.getElem?_append_left (by simpa using hjl)]
              simpa using hj
          | ms k off n =>
            obtain ⟨hn, hb1, hb2, hK⟩ := hK
            obtain ⟨rows', p, cp, news, F1, g1, g2, g3, g4, g5, rfl, g6, hK⟩ := rowsOf_sound h hy' hK
            have hlen : rows'.length = n := by
              unfold RepM at hy'
              obtain ⟨m, _, ⟨e1, _⟩ | ⟨e0, _⟩⟩ := hy'
              · rw [e1] at g1; cases g1; rfl
              · omega
            subst hlen
            have hr : rows' ≠ [] := fun e => by subst e; simp at hn
            obtain ⟨b, off, rfl, g7⟩ := g6.resolve_left hr
            have hm : ((maxLen : Nat) : Int) = 9223372036854775807 := by simp [maxLen]
            have hrn := run_append_nil (P := P) (w := w) t o.type et' ti z hu hi hz ⟨b, off, none⟩ rows'.length cp news (by rw [g3, hsz]) (fun j u hj => by rw [Addr.add_lit]; exact g7 j u hj) hn (by omega) (by rw [← hby]; omega)
            generalize hcap : grownCap w rows'.length 0 et' = cap at hrn
            have hge : rows'.length ≤ cap := by rw [← hcap]; exact grownCap_ge w _ _ _
            have hle : cap ≤ maxLen := by rw [← hcap]; exact grownCap_le_maxLen w _ _ _ hb2
            have hzl := size_zeroCells z.cells (cap - rows'.length)
            generalize hz' : Builtin.zeroCells z.cells (cap - rows'.length) = zs at hrn hzl
            have hdr : HR c F1 M s.hp s.nx w.drew := (h.toHR.keep (w' := w.drew) (F' := F1) (fun _ _ => rfl) (fun _ h => h) (fun _ h => .inl h) h.fl h.bel.drew).1
            have htd : Tr F1 M w F1 M w.drew := (h.toHR.keep (w' := w.drew) (F' := F1) (fun _ _ => rfl) (fun _ h => h) (fun _ h => .inl h) h.fl h.bel.drew).2
            obtain ⟨M', k1, k2, k3⟩ := hdr.newArr (rows := rows') (vs := news ++ zs.toList) (sz := e.sz) (cap := cap) (et := et')
              (by rw [← g3, List.take_left]; exact RepDL.mono htd.foot htd.cell _ _ g4) g5 g2 (by omega) hge hle (by
                rw [List.length_append, g3]; simp only [Array.length_toList, hzl, hzs]; rw [← Nat.add_mul]; congr 1; omega)
            have harr : (⟨news ++ zs.toList⟩ : Array Value) = news.toArray ++ zs := by apply Array.ext'; simp
            rw [harr] at k1 k2
            refine wp_next h hd k1 (htd.trans k2) (hrun (by rw [hx', g1]; exact hrn)) ?_ hK
            unfold RepM
            exact ⟨_, k3, .inl ⟨by simp, by simp; omega⟩⟩
          | _ => exact hK.elim
        | ms k off n =>
          cases off with
          | succ off => exact hK.elim
          | zero =>
            simp only at hK
            cases hb : s.hp k with
            | none => rw [hb] at hK; exact hK.elim
            | some blk =>
              cases blk with
              | res => first | exact hK.elim | (rw [hb] at hK; exact hK.elim) | exact h.elim | (rw [hb] at h; exact h.elim) | (rw [hb] at hK2; exact hK2.elim) | (rw [hb] at hK; simp only at hK; exact hK.elim) | exact Sel.no | exact Gives.none | exact Give2.none | exact toDB_ok hp (.ms k off len) | (have := Sel.toD (hp := hp) (.ms k off len); exact this) | exact .inl rfl | (cases hK; done) | (cases h; done)
              | box _ => rw [hb] at hK; exact hK.elim
              | own _ _ => rw [hb] at hK; exact hK.elim
              | arr sz rows lv =>
                cases lv with
                | false => rw [hb] at hK; exact hK.elim
                | true =>
                  rw [hb] at hK
                  simp only at hK
                  cases hq : and (Nat.beq sz.1 et') (Nat.beq sz.2 e.sz) with
                  | false => rw [hq] at hK; exact hK.elim
                  | true =>
                    rw [hq] at hK
                    simp only [Bool.and_eq_true] at hq
                    have hq1 := Nat.eq_of_beq_eq_true hq.1
                    have hq2 := Nat.eq_of_beq_eq_true hq.2
                    obtain ⟨hn, hK⟩ := hK
                    obtain ⟨rows', p, cp, news, F1, g1, g2, g3, g4, g5, rfl, g6, hb1, hb2, hK⟩ := rowsOf_sound h hy' hK
                    obtain ⟨m, f1, f2, f3, f4, _, f6, f7, f8, f9⟩ := h.arr k sz rows true hb
                    have hme : m.e = et' := by rw [← hq1, ← f2]
                    have hms : m.sz = e.sz := by rw [← hq2, ← f2]
                    unfold RepM at hx'
                    obtain ⟨m', h1, h2⟩ := hx'
                    rw [f1] at h1; cases h1
                    rcases h2 with ⟨h2, h3⟩ | ⟨_, h3, _⟩
                    case inr => omega
                    obtain ⟨olds, o1, o2, o3, o4⟩ := RepR.vals rows 0 f9
                    rw [hms] at o1 f9
                    have hokr : RowsOk e.sz rows := fun r hr => RepR.rowlen f9 r hr
                    have hokall : RowsOk e.sz (rows ++ rows') := fun r hr => by
                      rcases List.mem_append.1 hr with hr | hr
                      · exact hokr r hr
                      · exact g2 r hr
                    have hones : ∀ x ∈ (rows ++ rows').flatten, one x = true := fun x hx => by
                      rw [List.flatten_append, List.mem_append] at hx
                      rcases hx with hx | hx
                      · exact o3 x hx
                      · exact g5 x hx
                    have hnews1 := cells_one g4 g5
                    have hev : a.eval x = .slice (some ⟨m.b, 0, none⟩) n m.cap := by rw [h2]; simp
                    -- nothing, room, or growth
                    by_cases hr0 : rows' = []
                    · subst hr0
                      have hnl : news = [] := List.eq_nil_of_length_eq_zero (by simpa using g3)
                      subst hnl
                      obtain ⟨k1, k2⟩ := h.toHR.grow (w' := w) (some k) (m := m) (blk := .arr (et', e.sz) (rows ++ []) true) (fun _ _ _ => rfl) (Nat.le_refl _) (fun j hj => by cases hj; exact ⟨by rw [hb]; simp, fun mk hmk => by rw [f1] at hmk; cases hmk; exact f4 rfl⟩) (.inr ⟨k, m, rfl, f1, rfl⟩) h.bel f6
                        (fun t => ⟨by rw [hme, hms], rfl, by simpa using f7, f8, by rw [List.append_nil, hms]; exact RepR.mono' t f9⟩)
                      refine wp_next h hd k1 k2 (hrun (v' := .slice (some ⟨m.b, 0, none⟩) n m.cap) (w' := w) (by rw [hev, g1]; exact run_append_nothing' hu hi _ p n m.cap cp (by omega))) ?_ hK
                      unfold RepM
                      exact ⟨m, by simp, .inl ⟨by simp, by simp; omega⟩⟩
                    · obtain ⟨b, off, rfl, g7⟩ := g6.resolve_left hr0
                      obtain ⟨cur, hg, hcs⟩ := f6
                      rw [hme] at hg
                      have hcs' : cur.size = m.cap * e.sz := by rw [hcs, hms]
                      by_cases hroom : n + rows'.length ≤ m.cap
                      · have hfit : n * e.sz + news.length ≤ cur.size := by
                          rw [g3, ← Nat.add_mul, hcs']; exact Nat.mul_le_mul_right _ hroom
                        have hrn := run_append_room (P := P) w t o.type et' ti hu hi m.b n m.cap cur hg ⟨b, off, none⟩ rows'.length cp news (by rw [g3, hsz]) (fun j u hj => by rw [Addr.add_lit]; exact g7 j u hj) hnews1 hroom (by rw [← hsz]; exact hfit)
                        rw [← hsz] at hrn
                        have hl : n * e.sz + news.length ≤ cur.toList.length := by simpa using hfit
                        have hown' : Own (w.setRow m.b (cur.toList.take (n * e.sz) ++ news ++ cur.toList.drop (n * e.sz + news.length)).toArray) m := by
                          refine ⟨_, by rw [hme]; exact setRow_heap w m.b cur _ et' (0, 0) hg, ?_⟩
                          have := splice_len cur.toList news (n * e.sz) hl
                          simpa [hcs] using this
                        have hcell : ∀ j, (w.setRow m.b (cur.toList.take (n * e.sz) ++ news ++ cur.toList.drop (n * e.sz + news.length)).toArray).cell? ⟨m.b, j, none⟩ = if j < n * e.sz then w.cell? ⟨m.b, j, none⟩ else if j < n * e.sz + news.length then news[j - n * e.sz]? else w.cell? ⟨m.b, j, none⟩ := by
                          intro j
                          rw [cell_of_row _ m.b j _ et' (0, 0) (setRow_heap w m.b cur _ et' (0, 0) hg), cell_of_row w m.b j cur et' (0, 0) hg]
                          have := splice_get cur.toList news (n * e.sz) j hl
                          simpa using this
                        generalize hw' : w.setRow m.b (cur.toList.take (n * e.sz) ++ news ++ cur.toList.drop (n * e.sz + news.length)).toArray = w' at hrn hown' hcell
                        have hoth : ∀ b, b ≠ m.b → w'.heap[b]? = w.heap[b]? := fun b hb => by rw [← hw']; exact setRow_other w m.b b _ hb
                        have hsize : w'.heap.size = w.heap.size := by rw [← hw']; simp
                        have hbel : Below c.w0.heap.size c.w0 w' := by
                          refine h.bel.grown (row := some m.b) ⟨?_, ?_, ?_, by omega, fun k' _ hk => hoth k' (fun e => hk (by rw [e]))⟩ h.bel.size (fun k' hk => by cases hk; exact f3) <;> (rw [← hw']; rfl)
                        obtain ⟨k1, k2⟩ := h.toHR.grow (w' := w') (some k) (m := m) (blk := .arr (et', e.sz) (rows ++ rows') true) (fun b' _ hb' => hoth b' (hb' k m rfl f1)) (by omega) (fun j hj => by cases hj; exact ⟨by rw [hb]; simp, fun mk hmk => by rw [f1] at hmk; cases hmk; exact f4 rfl⟩) (.inr ⟨k, m, rfl, f1, rfl⟩) hbel hown'
                          (fun t => by
                            refine ⟨by rw [hme, hms], rfl, ⟨by simp; omega, f7.2⟩, f8, ?_⟩
                            rw [hms]
                            refine RepR_flat (rows ++ rows') (olds ++ news) 0 hokall ?_ hones fun j u hj => ?_
                            · rw [List.flatten_append]
                              exact (RepDL.mono t.foot t.cell _ _ o2).app (RepDL.mono t.foot t.cell _ _ g4)
                            · have ho1 : olds.length = n * e.sz := by rw [o1, hn]
                              rw [hcell]
                              by_cases hj1 : j < olds.length
                              · rw [List.getElem?_append_left hj1] at hj
                                rw [if_pos (by omega)]
                                exact o4 j u hj
                              · rw [List.getElem?_append_right (by omega)] at hj
                                have hj2 : j - olds.length < news.length := by
                                  rcases Nat.lt_or_ge (j - olds.length) news.length with h | h
                                  · exact h
                                  · rw [List.getElem?_eq_none h] at hj; cases hj
                                rw [if_neg (by omega), if_pos (by omega), ← hj]; congr 1; omega)
                        refine wp_next h hd k1 k2 (hrun (v' := .slice (some ⟨m.b, 0, none⟩) (n + rows'.length) m.cap) (w' := w') (by rw [hev, g1]; exact hrn)) ?_ hK
                        unfold RepM
                        exact ⟨m, by simp, .inl ⟨by simp, by simp; omega⟩⟩
                      · obtain ⟨v', w', hrn, r1, r2⟩ := run_append_arg_grows (P := P) w t o.type et' ti z e.sz e.by_ hu hi hz hsz.symm hby.symm hzs (by omega) ⟨m.b, 0, none⟩ n m.cap olds (by rw [o1, hn]) (fun j u hj => by rw [Addr.add_lit]; exact o4 j u hj)
                          ⟨b, off, none⟩ rows'.length cp news g3 (fun j u hj => by rw [Addr.add_lit]; exact g7 j u hj) (by omega) hb2 hb1
                        have r1' := r1.2
                        rcases r1' with ⟨_, h0⟩ | ⟨g, cap', cur', rfl, q1, q2, q3, q4, q5, _⟩
                        · omega
                        · have hbel : Below c.w0.heap.size c.w0 w' := h.bel.grown (row := none) r2 h.bel.size (fun k' hk => by cases hk)
                          obtain ⟨k1, k2⟩ := h.toHR.grow (w' := w') (some k) (m := ⟨g, e.sz, cap', et'⟩) (blk := .arr (et', e.sz) (rows ++ rows') true) (fun b' hb' _ => r2.block b' hb' (by simp)) r2.size (fun j hj => by cases hj; exact ⟨by rw [hb]; simp, fun mk hmk => by rw [f1] at hmk; cases hmk; exact f4 rfl⟩) (.inl q1) hbel ⟨cur', q2, q5⟩
                            (fun t => ⟨rfl, rfl, ⟨by simp; omega, q4⟩, (show 0 < e.sz by omega), ownsRow_flat r1 hokall (by rw [List.flatten_append]; exact (RepDL.mono t.foot t.cell _ _ o2).app (RepDL.mono t.foot t.cell _ _ g4)) hones⟩)
                          refine wp_next h hd k1 k2 (hrun (by rw [hev, g1]; exact hrn)) ?_ hK
                          unfold RepM
                          exact ⟨⟨g, e.sz, cap', et'⟩, by simp, .inl ⟨by simp, by simp; omega⟩⟩
        | _ => exact hK.elim
end
end Ab
