import Derived.Test.YtbcgkonhkoopnaaGreatXOp5
/-!
Soundness of copy, and of composite values.
-/
namespace Ab
open Go Go.RowKit

section
variable {c : Ctx} {ro : Option Nat} {N : Nat} {F F' : Foot} {M M' : Nat → Option MB} {s : St} {a : Act} {w w' : World} {P : Program} {o : Oper} {K : St → Prop} {Q : Exit → Act → World → Prop}

theorem RowsOk.take {sz : Nat} {rows : List (List AV)} (h : RowsOk sz rows) (n : Nat) : RowsOk sz (rows.take n) := fun r hr => h r (List.mem_of_mem_take hr)
theorem RowsOk.drop {sz : Nat} {rows : List (List AV)} (h : RowsOk sz rows) (n : Nat) : RowsOk sz (rows.drop n) := fun r hr => h r (List.mem_of_mem_drop hr)
theorem RowsOk.app {sz : Nat} {l m : List (List AV)} (h : RowsOk sz l) (g : RowsOk sz m) : RowsOk sz (l ++ m) := fun r hr => by
  rcases List.mem_append.1 hr with hr | hr
  · exact h r hr
  · exact g r hr

theorem flat_take {sz : Nat} : ∀ (rows : List (List AV)) (n : Nat), RowsOk sz rows → (rows.take n).flatten = rows.flatten.take (n * sz)
  | [], n, _ => by simp
  | r :: rs, 0, _ => by simp
  | r :: rs, n + 1, h => by
      have h0 := h r (by simp)
      rw [List.take_succ_cons, List.flatten_cons, List.flatten_cons, flat_take rs n (fun q hq => h q (by simp [hq])), List.take_append, h0]
      congr 1
      · rw [List.take_of_length_le (by rw [h0, Nat.add_mul]; omega)]
      · congr 1; rw [Nat.add_mul]; omega
theorem flat_drop {sz : Nat} : ∀ (rows : List (List AV)) (n : Nat), RowsOk sz rows → (rows.drop n).flatten = rows.flatten.drop (n * sz)
  | [], n, _ => by simp
  | r :: rs, 0, _ => by simp
  | r :: rs, n + 1, h => by
      have h0 := h r (by simp)
      have e1 : r.drop ((n + 1) * sz) = [] := List.drop_of_length_le (by rw [h0, Nat.add_mul]; omega)
      rw [List.drop_succ_cons, List.flatten_cons, flat_drop rs n (fun q hq => h q (by simp [hq])), List.drop_append, h0, e1, List.nil_append]
      congr 1; rw [Nat.add_mul]; omega

theorem op_copy {x y : Operand} {args : Array Operand} {ts : Array TypeId} {t u : TypeId} (ha : args = #[x, y]) (hts : ts = #[t, u]) (ho : o.op = .call { callee := .builtin .copy, args := args, argTypes := ts })
    (hT : TOk P c.T) (h : Rel c N F M s a w) (hd : ∀ t, o.dst = some t → t < N) (hx : ∀ t, x = .tmp t → t < N) (hy : ∀ t, y = .tmp t → t < N)
    (hK : aCopy c.T t (ev c.gl s x) (ev c.gl s y) s fun v s' => K (Ab.put o.dst v s')) : o.wpIn (Fw ro) 0 P a w (Post c N F M w K) Q := by
  have hx' := h.ev x hx
  have hy' := h.ev y hy
  generalize ev c.gl s x = ax at hx' hK
  generalize ev c.gl s y = ay at hy' hK
  unfold aCopy at hK
  cases he : ((look c.T t).bind fun i => i.sl).bind (look c.T) with
  | none => rw [he] at hK; exact hK.elim
  | some e =>
    rw [he] at hK
    obtain ⟨et, ti, z, hu, hi, hz, hsz, _, _, _⟩ := hT.elem he
    simp only at hK
    cases h1s : Nat.beq e.sz 1 with
    | false => rw [h1s] at hK; exact hK.elim
    | true =>
      rw [h1s] at hK
      have h1s := Nat.eq_of_beq_eq_true h1s
      simp only at hK
      cases ax with
      | ms k off n =>
        simp only at hK
        cases hb : s.hp k with
        | none => rw [hb] at hK; exact hK.elim
        | some blk =>
          cases blk with
          | res => first | exact hK.elim | (rw [hb] at hK; exact hK.elim) | exact h.elim | (rw [hb] at h; exact h.elim) | (rw [hb] at hK2; exact hK2.elim) | (rw [hb] at hK; simp only at hK; exact hK.elim) | exact Sel.no | exact Gives.none | exact Give2.none | exact toDB_ok hp (.ms k off len) | (have := Sel.toD (hp := hp) (.ms k off len); exact this) | exact .inl rfl | (cases hK; done) | (cases h; done)
          | box _ => rw [hb] at hK; exact hK.elim
          | own _ _ => rw [hb] at hK; exact hK.elim
          | arr sz rows lv =>
            cases lv with
            | false => rw [hb] at hK; exact hK.elim
            | true =>
              rw [hb] at hK
              simp only at hK
              cases hq : Nat.beq sz.2 1 with
              | false => rw [hq] at hK; exact hK.elim
              | true =>
                rw [hq] at hK
                have hq := Nat.eq_of_beq_eq_true hq
                obtain ⟨rows', p, cp, news, F1, g1, g2, g3, g4, g5, rfl, g6, hfit, hK2⟩ := rowsOf_sound h hy' hK
                clear hK
                obtain ⟨m, f1, f2, f3, f4, _, f6, f7, f8, f9⟩ := h.arr k sz rows true hb
                have hms : m.sz = 1 := by rw [← hq, ← f2]
                have hs1 : (P.info? et).map (·.size) = some 1 := by rw [hi]; simp; omega
                have hexec : ∀ {v : Value} {w' : World}, (Builtin.copy_ #[t, u] o.type #[a.eval x, a.eval y]).run P w = .ok v w' → (execOp a.eval o).run P w = .ok (.value v) w' := by
                  intro v w' hr
                  simp [execOp, ho, ha, hts, resolve, invoke, builtin, hr, Result.andThen]
                have hok : RowsOk 1 rows := fun r hr => by rw [← hms]; exact RepR.rowlen f9 r hr
                -- nothing to copy
                by_cases h0 : min rows'.length n = 0
                · have hrows : rows.take off ++ rows'.take n ++ rows.drop (off + min rows'.length n) = rows := by
                    have : rows'.take n = [] := List.eq_nil_of_length_eq_zero (by rw [List.length_take, Nat.min_comm]; exact h0)
                    rw [this, h0]; simp
                  rw [hrows, h0] at hK2
                  obtain ⟨k1, k2⟩ := h.toHR.write (k := k) (m := m) (blk := .arr sz rows true) (w' := w) (by rw [hb]; simp) f1 (f4 rfl) (fun _ _ => rfl) rfl h.bel f6 (fun t => ⟨f2, rfl, f7, f8, RepR.mono' t f9⟩)
                  have hr : ∃ q nn cc, a.eval x = .slice q nn cc ∧ nn = n := by
                    unfold RepM at hx'
                    obtain ⟨m', _, ⟨h1, _⟩ | ⟨h1, _, p', c', h2, _⟩⟩ := hx'
                    · exact ⟨_, _, _, h1, rfl⟩
                    · exact ⟨_, _, _, h2, h1.symm⟩
                  obtain ⟨q, nn, cc, hr, rfl⟩ := hr
                  refine wp_next h hd k1 k2 (hexec (v := goInt 0) (w' := w) ?_) (by unfold RepM; rfl) hK2
                  rw [hr, g1]
                  exact run_copy_none w t u o.type et q p nn cc _ cp hu hs1 h0
                · have hne : rows' ≠ [] := fun e => by subst e; simp at h0
                  obtain ⟨b, of', rfl, g7⟩ := g6.resolve_left hne
                  unfold RepM at hx'
                  obtain ⟨m', h1, h2⟩ := hx'
                  rw [f1] at h1; cases h1
                  rcases h2 with ⟨h2, h3⟩ | ⟨h2, _⟩
                  case inr => subst h2; simp at h0
                  rw [hms, Nat.mul_one] at h2
                  obtain ⟨cur, hg, hcs⟩ := f6
                  rw [hms, Nat.mul_one] at hcs
                  rw [Nat.mul_one] at g3
                  have hvl : (news.take n).length = Nat.min rows'.length n := by simp [g3, Nat.min_comm]
                  have hn1 : ∀ u ∈ news.take n, u.oneCell' = true := fun u hu => cells_one g4 g5 u (List.mem_of_mem_take hu)
                  have hfit' : off + (news.take n).length ≤ cur.size := by
                    rw [hvl, hcs]
                    have : Nat.min rows'.length n ≤ n := Nat.min_le_right _ _
                    omega
                  have hrn := run_copy_row (P := P) w t u o.type et m.b off n (m.cap - off) ⟨b, of', none⟩ rows'.length cp cur m.e (news.take n) hu hs1 hg hvl (fun j v hj => by
                    rw [List.getElem?_take] at hj
                    split at hj
                    · rw [Addr.add_lit]; exact g7 j v hj
                    · cases hj) hfit' hn1
                  rw [hvl] at hrn
                  have hmin : Nat.min rows'.length n = min rows'.length n := rfl
                  rw [hmin] at hrn hvl
                  have hl : off + (news.take n).length ≤ cur.toList.length := by simpa using hfit'
                  have hsg := fun j => splice_get cur.toList (news.take n) off j hl
                  have hsl := splice_len cur.toList (news.take n) off hl
                  rw [hvl] at hsg hsl
                  generalize hwc : (cur.toList.take off ++ news.take n ++ cur.toList.drop (off + min rows'.length n)) = wc at hrn hsg hsl
                  have hwh := setRow_heap w m.b cur wc.toArray m.e (0, 0) hg
                  have hoth : ∀ b, b ≠ m.b → (w.setRow m.b wc.toArray).heap[b]? = w.heap[b]? := fun b hb => setRow_other w m.b b _ hb
                  have hbel : Below c.w0.heap.size c.w0 (w.setRow m.b wc.toArray) :=
                    h.bel.grown (row := some m.b) ⟨rfl, rfl, rfl, by simp, fun k' _ hk => hoth k' (fun e => hk (by rw [e]))⟩ h.bel.size (fun k' hk => by cases hk; exact f3)
                  obtain ⟨k1, k2⟩ := h.toHR.write (k := k) (m := m) (w' := w.setRow m.b wc.toArray) (blk := .arr sz (rows.take off ++ rows'.take n ++ rows.drop (off + min rows'.length n)) true) (by rw [hb]; simp) f1 (f4 rfl) hoth (by simp) hbel ⟨_, hwh, by rw [hms]; simp [hsl, hcs]⟩ (fun t => by
                    have hrl : (rows'.take n).length = min rows'.length n := by simp [Nat.min_comm]
                    have hlr : off + (rows'.take n).length ≤ rows.length := by rw [hrl]; omega
                    have hlen := splice_len rows (rows'.take n) off hlr
                    rw [hrl] at hlen
                    refine ⟨f2, rfl, ⟨by rw [hlen]; exact f7.1, f7.2⟩, f8, RepR_of _ 0 fun r row hr => ?_⟩
                    have hsr := splice_get rows (rows'.take n) off r hlr
                    rw [hrl] at hsr
                    rw [hsr] at hr
                    rw [hms, Nat.zero_add, Nat.mul_one]
                    by_cases c1 : r < off
                    · rw [if_pos c1] at hr
                      have hrr := RepR.at rows 0 r row f9 hr
                      rw [hms, Nat.zero_add, Nat.mul_one] at hrr
                      refine ⟨hrr.1, RepC_of _ _ fun j x hj => ?_⟩
                      obtain ⟨e1, v, e2, e3⟩ := RepC.at row r j x hrr.2 hj
                      have hj0 : j = 0 := by
                        rcases Nat.lt_or_ge j row.length with h | h
                        · omega
                        · rw [List.getElem?_eq_none h] at hj; cases hj
                      subst hj0
                      refine ⟨e1, v, ?_, RepD.mono t.foot t.cell _ _ e3⟩
                      rw [cell_of_row _ m.b (r + 0) wc.toArray m.e (0, 0) hwh]
                      rw [cell_of_row w m.b (r + 0) cur m.e (0, 0) hg] at e2
                      have := hsg (r + 0)
                      rw [if_pos (by omega)] at this
                      simpa using this.trans (by simpa using e2)
                    · rw [if_neg c1] at hr
                      by_cases c2 : r < off + min rows'.length n
                      · rw [if_pos c2, List.getElem?_take, if_pos (by omega)] at hr
                        have hr1 := g2 row (List.mem_of_getElem? hr)
                        refine ⟨hr1, RepC_of _ _ fun j x hj => ?_⟩
                        have hj0 : j = 0 := by
                          rcases Nat.lt_or_ge j row.length with h | h
                          · omega
                          · rw [List.getElem?_eq_none h] at hj; cases hj
                        subst hj0
                        have hflat : rows'.flatten[r - off]? = some x := by
                          have e1 := flat_drop rows' (r - off) g2
                          have hlt : r - off < rows'.length := by omega
                          rw [List.drop_eq_getElem_cons hlt, List.flatten_cons, Nat.mul_one] at e1
                          have e2 : rows'[r - off] = row := by rw [List.getElem?_eq_getElem hlt] at hr; exact Option.some.inj hr
                          rw [e2] at e1
                          have e3 : (rows'.flatten.drop (r - off))[0]? = some x := by
                            rw [← e1, List.getElem?_append_left (by omega)]; exact hj
                          rw [List.getElem?_drop] at e3
                          simpa using e3
                        obtain ⟨v, e2, e3⟩ := RepDL.get _ _ _ _ g4 hflat
                        refine ⟨g5 x (List.mem_of_getElem? hflat), v, ?_, RepD.mono t.foot t.cell _ _ e3⟩
                        rw [cell_of_row _ m.b (r + 0) wc.toArray m.e (0, 0) hwh]
                        have := hsg (r + 0)
                        rw [if_neg (by omega), if_pos (by omega), List.getElem?_take, if_pos (by omega)] at this
                        simpa using this.trans (by simpa using e2)
                      · rw [if_neg c2] at hr
                        have hrr := RepR.at rows 0 r row f9 hr
                        rw [hms, Nat.zero_add, Nat.mul_one] at hrr
                        refine ⟨hrr.1, RepC_of _ _ fun j x hj => ?_⟩
                        obtain ⟨e1, v, e2, e3⟩ := RepC.at row r j x hrr.2 hj
                        have hj0 : j = 0 := by
                          rcases Nat.lt_or_ge j row.length with h | h
                          · omega
                          · rw [List.getElem?_eq_none h] at hj; cases hj
                        subst hj0
                        refine ⟨e1, v, ?_, RepD.mono t.foot t.cell _ _ e3⟩
                        rw [cell_of_row _ m.b (r + 0) wc.toArray m.e (0, 0) hwh]
                        rw [cell_of_row w m.b (r + 0) cur m.e (0, 0) hg] at e2
                        have := hsg (r + 0)
                        rw [if_neg (by omega), if_neg (by omega)] at this
                        simpa using this.trans (by simpa using e2))
                  refine wp_next h hd k1 k2 (hexec (v := goInt (min rows'.length n : Nat)) (w' := w.setRow m.b wc.toArray) ?_) (by unfold RepM; rfl) hK2
                  rw [h2, g1]
                  exact hrn
      | _ => exact hK.elim
end
end Ab
