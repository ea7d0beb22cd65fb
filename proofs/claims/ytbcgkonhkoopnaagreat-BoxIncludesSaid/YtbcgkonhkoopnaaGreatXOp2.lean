import Derived.Test.YtbcgkonhkoopnaaGreatXHeap2
import Derived.Laws.MakeOwn
/-!
Soundness of the operations on memory.
-/
namespace Ab
open Go Go.RowKit

section
variable {c : Ctx} {ro : Option Nat} {N : Nat} {F F' : Foot} {M M' : Nat → Option MB} {s : St} {a : Act} {w w' : World} {P : Program} {o : Oper} {K : St → Prop} {Q : Exit → Act → World → Prop}

theorem Rel.next {hp' : Nat → Option Blk} {nx' : Nat} (h : Rel c N F M s a w) (h' : HR c F' M' hp' nx' w') (t : Tr F M w F' M' w') : Rel c N F' M' ⟨s.tm, hp', nx'⟩ a w' :=
  ⟨h', fun k hk => (h.tm k hk).tr t, h.df.tr t, h.sz⟩

/-- an operation that yields v and leads into w' -/
theorem wp_next {hp' : Nat → Option Blk} {nx' : Nat} {v : Value} {av : AV} (h : Rel c N F M s a w) (hd : ∀ t, o.dst = some t → t < N) (h' : HR c F' M' hp' nx' w') (t : Tr F M w F' M' w')
    (hrun : (execOp a.eval o).run P w = .ok (.value v) w') (hv : RepM w' F' M' av v) (hK : K (Ab.put o.dst av ⟨s.tm, hp', nx'⟩)) : o.wpIn (Fw ro) 0 P a w (Post c N F M w K) Q := by
  refine ⟨fun _ _ => trivial, ?_⟩
  rw [sem_run hrun (by simp)]
  exact ⟨_, F', M', (h.next h' t).put hd hv, t, hK⟩

theorem wp_skip' {hp' : Nat → Option Blk} {nx' : Nat} (h : Rel c N F M s a w) (hd : ∀ t, o.dst = some t → t < N) (h' : HR c F' M' hp' nx' w') (t : Tr F M w F' M' w')
    (hrun : (execOp a.eval o).run P w = .ok .skip w') (hK : K (Ab.put o.dst .undef ⟨s.tm, hp', nx'⟩)) : o.wpIn (Fw ro) 0 P a w (Post c N F M w K) Q := by
  refine ⟨fun _ _ => trivial, ?_⟩
  rw [sem_run hrun (by simp)]
  exact ⟨_, F', M', (h.next h' t).put hd (av := .undef) (v := undef) (by unfold RepM; trivial), t, hK⟩

theorem one_cell {av : AV} {v : Value} (h1 : one av = true) (h : RepM w F M av v) : v.oneCell' = true ∧ v.cells = #[v] := by
  cases av with
  | int k n => unfold RepM at h; subst h; exact ⟨rfl, rfl⟩
  | bool b => unfold RepM at h; subst h; exact ⟨rfl, rfl⟩
  | str b => unfold RepM at h; subst h; exact ⟨rfl, rfl⟩
  | sl rows => unfold RepM RepD at h; obtain ⟨p, cp, rfl, _⟩ := h; exact ⟨rfl, rfl⟩
  | nil => unfold RepM at h; subst h; exact ⟨rfl, rfl⟩
  | bp k o => unfold RepM at h; obtain ⟨m, _, rfl⟩ := h; exact ⟨rfl, rfl⟩
  | ap k r o => unfold RepM at h; obtain ⟨m, _, rfl⟩ := h; exact ⟨rfl, rfl⟩
  | er row o => unfold RepM at h; obtain ⟨b, off, rfl, _⟩ := h; exact ⟨rfl, rfl⟩
  | ms k off n => unfold RepM at h; obtain ⟨m, _, ⟨rfl, _⟩ | ⟨_, _, p, cp, rfl, _⟩⟩ := h <;> exact ⟨rfl, rfl⟩
  | fn f cap => unfold RepM at h; obtain ⟨vs, rfl, _⟩ := h; exact ⟨rfl, rfl⟩
  | yl l => unfold RepM at h; subst h; exact ⟨rfl, rfl⟩
  | agg _ => cases h1
  | tup _ => cases h1
  | undef => cases h1

theorem ones_mem : ∀ {l : List AV}, ones l = true → ∀ x ∈ l, one x = true
  | [], _, x, hx => by cases hx
  | a :: l, h, x, hx => by
      simp only [ones, Bool.and_eq_true] at h
      rcases List.mem_cons.1 hx with rfl | hx
      · exact h.1
      · exact ones_mem h.2 x hx

theorem cells_rep {av : AV} {v : Value} (h1 : ones (cells av) = true) (h : RepM w F M av v) : RepML w F M (cells av) v.cells.toList ∧ ∀ u ∈ v.cells.toList, u.oneCell' = true := by
  have gen : ∀ av : AV, cells av = [av] → ones (cells av) = true → RepM w F M av v → RepML w F M (cells av) v.cells.toList ∧ ∀ u ∈ v.cells.toList, u.oneCell' = true := by
    intro av hc h1 h
    rw [hc] at h1 ⊢
    have := one_cell (ones_mem h1 av (by simp)) h
    rw [this.2]
    refine ⟨?_, by simpa using this.1⟩
    unfold RepML
    exact ⟨v, [], rfl, h, by unfold RepML; rfl⟩
  cases av with
  | agg cs =>
    unfold RepM at h
    obtain ⟨vs, rfl, h2⟩ := h
    refine ⟨h2, ?_⟩
    have : ∀ (l : List AV) (vs : List Value), ones l = true → RepML w F M l vs → ∀ u ∈ vs, u.oneCell' = true := by
      intro l
      induction l with
      | nil => intro vs _ h; unfold RepML at h; subst h; simp
      | cons x l ih =>
        intro vs ho h
        unfold RepML at h
        obtain ⟨v, vs', rfl, h3, h4⟩ := h
        simp only [ones, Bool.and_eq_true] at ho
        intro u hu
        rcases List.mem_cons.1 hu with rfl | hu
        · exact (one_cell ho.1 h3).1
        · exact ih vs' ho.2 h4 u hu
    exact this cs vs h1 h2
  | _ => exact gen _ rfl h1 h

theorem RepMC_new {b : Nat} : ∀ (l : List AV) (vs : List Value) (o : Nat), RepML w F M l vs → ones l = true → (∀ j v, vs[j]? = some v → w.cell? ⟨b, o + j, none⟩ = some v) → RepMC w F M b l o
  | [], _, _, _, _, _ => trivial
  | x :: l, vs, o, h, h1, hc => by
      unfold RepML at h
      obtain ⟨v, vs', rfl, h2, h3⟩ := h
      simp only [ones, Bool.and_eq_true] at h1
      unfold RepMC
      refine ⟨⟨h1.1, v, by simpa using hc 0 v rfl, h2⟩, RepMC_new l vs' (o + 1) h3 h1.2 fun j u hu => ?_⟩
      have := hc (j + 1) u (by simpa using hu)
      rwa [show o + 1 + j = o + (j + 1) by omega]

theorem alloc_cell (cs : List Value) (e : TypeId) (j : Nat) (v : Value) (h : cs[j]? = some v) : (w.alloc (.cells ⟨cs⟩ e)).cell? ⟨w.heap.size, 0 + j, none⟩ = some v := by
  rw [World.cell?_alloc_new]; simpa using h

theorem alloc_heap (o : Obj) : ∀ b, b < w.heap.size → (w.alloc o).heap[b]? = w.heap[b]? := fun b hb => Below.heap_alloc w o b hb

theorem alloc_own {cs : List Value} {e : TypeId} {sz cap : Nat} (h : cs.length = cap * sz) : Own (w.alloc (.cells ⟨cs⟩ e)) ⟨w.heap.size, sz, cap, e⟩ :=
  ⟨⟨cs⟩, heap_alloc_new w _, by simpa using h⟩

/-- a new variable -/
theorem HR.newBox {hp : Nat → Option Blk} {nx : Nat} (h : HR c F M hp nx w) {cs : List AV} {vs : List Value} (hv : RepML w F M cs vs) (h1 : ones cs = true) (e : TypeId) :
    ∃ M', HR c F M' (upd nx (some (.box cs)) hp) (nx + 1) (w.alloc (.cells ⟨vs⟩ e)) ∧ Tr F M w F M' (w.alloc (.cells ⟨vs⟩ e)) ∧
      ∃ m, M' nx = some m ∧ m.b = w.heap.size := by
  refine ⟨_, (h.grow none (m := ⟨w.heap.size, 1, vs.length, e⟩) (blk := .box cs) (fun b hb _ => alloc_heap _ b hb) (by simp) (fun k hk => by cases hk) (.inl (Nat.le_refl _))
    (h.bel.alloc h.bel.size _) (alloc_own (by simp)) fun t => ⟨⟨rfl, (RepML.len _ _ hv).symm⟩, ?_⟩).1, ?_, ⟨w.heap.size, 1, vs.length, e⟩, by simp, rfl⟩
  · exact RepMC_new cs vs 0 (hv.tr t) h1 fun j v hj => alloc_cell vs e j v hj
  · exact (h.grow none (m := ⟨w.heap.size, 1, vs.length, e⟩) (blk := .box cs) (fun b hb _ => alloc_heap _ b hb) (by simp) (fun k hk => by cases hk) (.inl (Nat.le_refl _))
      (h.bel.alloc h.bel.size _) (alloc_own (by simp)) fun t => ⟨⟨rfl, (RepML.len _ _ hv).symm⟩, RepMC_new cs vs 0 (hv.tr t) h1 fun j v hj => alloc_cell vs e j v hj⟩).2

theorem op_box {e : TypeId} {x : Operand} (ho : o.op = .box e x) (h : Rel c N F M s a w) (hd : ∀ t, o.dst = some t → t < N) (hx : ∀ t, x = .tmp t → t < N)
    (hK : forceL (cells (ev c.gl s x)) fun cs => match ones cs with | true => K (Ab.put o.dst (.bp s.nx 0) (Ab.alloc (.box cs) s)) | false => False) : o.wpIn (Fw ro) 0 P a w (Post c N F M w K) Q := by
  rw [forceL_eq] at hK
  have hx' := h.ev x hx
  generalize ev c.gl s x = ax at hx' hK
  cases h1 : ones (cells ax) with
  | false => rw [h1] at hK; exact hK.elim
  | true =>
    rw [h1] at hK
    have hc := cells_rep h1 hx'
    obtain ⟨M', g1, g2, m, g3, g4⟩ := h.toHR.newBox hc.1 h1 e
    refine wp_next h hd g1 g2 (v := .pointer (some ⟨w.heap.size, 0, none⟩)) ?_ ?_ hK
    · simp [execOp, ho, Instr.box, newVar, newRow]
    · unfold RepM; exact ⟨m, g3, by rw [g4]⟩

theorem op_alloc {e : TypeId} (ho : o.op = .alloc e) (hT : TOk P c.T) (h : Rel c N F M s a w) (hd : ∀ t, o.dst = some t → t < N)
    (hK : match look c.T e with
      | some i => match ones (cells i.zv) with | true => K (Ab.put o.dst (.bp s.nx 0) (Ab.alloc (.box (cells i.zv)) s)) | false => False
      | none => False) : o.wpIn (Fw ro) 0 P a w (Post c N F M w K) Q := by
  cases hl : look c.T e with
  | none => rw [hl] at hK; exact hK.elim
  | some i =>
    rw [hl] at hK
    obtain ⟨ti, d, z, hi, hu, hz, _, _, hzv, _⟩ := hT.parts hl
    simp only at hK
    cases h1 : ones (cells i.zv) with
    | false => rw [h1] at hK; exact hK.elim
    | true =>
      rw [h1] at hK
      rw [hzv] at h1 hK
      have hc := cells_rep (w := w) (F := F) (M := M) h1 (evOfV z)
      obtain ⟨M', g1, g2, m, g3, g4⟩ := h.toHR.newBox hc.1 h1 e
      refine wp_next h hd g1 g2 (v := .pointer (some ⟨w.heap.size, 0, none⟩)) ?_ ?_ hK
      · simp [execOp, ho, Instr.alloc, zeroValue, typeInfo, hi, hz, newVar, newRow]
      · unfold RepM; exact ⟨m, g3, by rw [g4]⟩

/-! loads -/

theorem rd_sound {b oo o' : Nat} {row : List AV} {t : TypeId} {i : TyI} (hT : TOk P c.T) (ht : look c.T t = some i) (hr : RepMC w F M b row oo) {K : AV → Prop} (hK : rd i.ag i.sz row o' K) :
    ∃ av v, (loadVar t ⟨b, oo + o', none⟩).run P w = .ok v w ∧ RepM w F M av v ∧ K av := by
  obtain ⟨ti, d, z, hi, hu, hz, hsz, _, hzv, _, hag, hnag, _⟩ := hT.parts ht
  cases ha : i.ag with
  | false =>
    rw [ha] at hK
    simp only [rd, nth_eq] at hK
    cases hv : row[o']? with
    | none => rw [hv] at hK; exact hK.elim
    | some av =>
      rw [hv] at hK
      simp only [force_eq] at hK
      obtain ⟨_, v, h1, h2⟩ := RepMC.at row oo o' av hr hv
      refine ⟨av, v, ?_, h2, hK⟩
      have := hnag ha
      cases d with
      | struct fs => exact absurd rfl (this.1 fs)
      | array n e => exact absurd rfl (this.2 n e)
      | _ => simp [loadVar, isAgg, run_underlying hu, load, Sem.run, h1]
  | true =>
    rw [ha] at hK
    simp only [rd, lenL_eq, takeL_eq, dropL_eq] at hK
    cases hle : Nat.ble (o' + i.sz) row.length with
    | false => rw [hle] at hK; exact hK.elim
    | true =>
      rw [hle] at hK
      simp only [forceL_eq] at hK
      have hle := Nat.le_of_ble_eq_true hle
      have key : ∀ (n k : Nat), k + n ≤ row.length → ∃ vs : List Value, vs.length = n ∧ RepML w F M ((row.drop k).take n) vs ∧ ∀ j v, vs[j]? = some v → w.cell? ⟨b, oo + k + j, none⟩ = some v := by
        intro n
        induction n with
        | zero => intro k _; exact ⟨[], rfl, by simp [RepML], by simp⟩
        | succ n ih =>
          intro k hk
          obtain ⟨vs, h1, h2, h3⟩ := ih (k + 1) (by omega)
          have hlt : k < row.length := by omega
          obtain ⟨_, v, h4, h5⟩ := RepMC.at row oo k row[k] hr (List.getElem?_eq_getElem hlt)
          refine ⟨v :: vs, by simp [h1], ?_, ?_⟩
          · rw [List.drop_eq_getElem_cons hlt, List.take_succ_cons]
            unfold RepML
            exact ⟨v, vs, rfl, h5, h2⟩
          · intro j u hu
            cases j with
            | zero => simp at hu; subst hu; simpa using h4
            | succ j =>
              have := h3 j u (by simpa using hu)
              rwa [show oo + k + (j + 1) = oo + (k + 1) + j by omega]
      obtain ⟨vs, h1, h2, h3⟩ := key i.sz o' hle
      refine ⟨_, .agg ⟨vs⟩, ?_, by unfold RepM; exact ⟨vs, rfl, h2⟩, hK⟩
      have hl := run_loadCells_list (P := P) (w := w) ⟨b, oo + o', none⟩ vs (fun j v hj => by rw [Addr.add_lit]; exact h3 j v hj)
      have hs : (Go.sizeOf t).run P w = .ok i.sz w := by simp [Go.sizeOf, typeInfo, hi, hsz]
      rw [h1] at hl
      rcases hag ha with ⟨fs, rfl⟩ | ⟨n, e, rfl⟩ <;> simp [loadVar, isAgg, run_underlying hu, hs, hl]

theorem aLoad_sound {lim : Option (Nat → Bool)} {t : TypeId} {hp : Nat → Option Blk} {nx : Nat} {tm : Nat → AV} (hT : TOk P c.T) (h : HR c F M hp nx w) {ax : AV} {v : Value} (hx' : RepM w F M ax v) {K : AV → Prop} (hK : aLoad c.T lim t ax ⟨tm, hp, nx⟩ K) :
    ∃ ad av u, v = .pointer (some ad) ∧ (loadVar t ad).run P w = .ok u w ∧ RepM w F M av u ∧ K av := by
  unfold aLoad at hK
  cases ht : look c.T t with
  | none => rw [ht] at hK; exact hK.elim
  | some i =>
    rw [ht] at hK
    have lim_of : ∀ {k : Nat} {K' : Prop}, inLim lim k K' → K' := by
      intro k K' hl
      unfold inLim at hl
      split at hl
      · exact hl
      · exact hl.2
    have fin : ∀ (b oo o' : Nat) (row : List AV), RepMC w F M b row oo → v = .pointer (some ⟨b, oo + o', none⟩) → rd i.ag i.sz row o' K → ∃ ad av u, v = .pointer (some ad) ∧ (loadVar t ad).run P w = .ok u w ∧ RepM w F M av u ∧ K av := by
      intro b oo o' row hr hv hK
      obtain ⟨av, u, h1, h2, h3⟩ := rd_sound hT ht hr hK
      exact ⟨_, av, u, hv, h1, h2, h3⟩
    cases ax with
    | bp k o' =>
      have hK := lim_of hK
      simp only at hK
      cases hb : hp k with
      | none => rw [hb] at hK; exact hK.elim
      | some blk =>
        rw [hb] at hK
        cases blk with
        | res => first | exact hK.elim | (rw [hb] at hK; exact hK.elim) | exact h.elim | (rw [hb] at h; exact h.elim) | (rw [hb] at hK2; exact hK2.elim) | (rw [hb] at hK; simp only at hK; exact hK.elim) | exact Sel.no | exact Gives.none | exact Give2.none | exact toDB_ok hp (.ms k off len) | (have := Sel.toD (hp := hp) (.ms k off len); exact this) | exact .inl rfl | (cases hK; done) | (cases h; done)
        | arr _ _ _ => exact hK.elim
        | box cs =>
          obtain ⟨m, h1, h2, h3, h4, h5, h6⟩ := h.box k cs hb
          unfold RepM at hx'
          obtain ⟨m', h7, h8⟩ := hx'
          rw [h1] at h7; cases h7
          exact fin m.b 0 o' cs h6 (by rw [h8, Nat.zero_add]) hK
        | own et cs =>
          obtain ⟨m, h1, h2, h3, h4, h5, h6, h6'⟩ := h.own k et cs hb
          unfold RepM at hx'
          obtain ⟨m', h7, h8⟩ := hx'
          rw [h1] at h7; cases h7
          exact fin m.b 0 o' cs h6' (by rw [h8, Nat.zero_add]) hK
    | ap k r o' =>
      have hK := lim_of hK
      simp only at hK
      cases hb : hp k with
      | none => rw [hb] at hK; exact hK.elim
      | some blk =>
        rw [hb] at hK
        cases blk with
        | res => first | exact hK.elim | (rw [hb] at hK; exact hK.elim) | exact h.elim | (rw [hb] at h; exact h.elim) | (rw [hb] at hK2; exact hK2.elim) | (rw [hb] at hK; simp only at hK; exact hK.elim) | exact Sel.no | exact Gives.none | exact Give2.none | exact toDB_ok hp (.ms k off len) | (have := Sel.toD (hp := hp) (.ms k off len); exact this) | exact .inl rfl | (cases hK; done) | (cases h; done)
        | box _ => exact hK.elim
        | own _ _ => exact hK.elim
        | arr sz rows lv =>
          obtain ⟨row, hrow, hK⟩ := hK
          obtain ⟨m, h1, h0, h2, h3, h4, h5, h6, h7, h8⟩ := h.arr k sz rows lv hb
          unfold RepM at hx'
          obtain ⟨m', h9, h10⟩ := hx'
          rw [h1] at h9; cases h9
          have := (RepR.at rows 0 r row h8 hrow).2
          rw [Nat.zero_add] at this
          exact fin m.b (r * m.sz) o' row (RepMC.of_C _ _ this) h10 hK
    | er row o' =>
      unfold RepM at hx'
      obtain ⟨b, off, h1, h2, h3⟩ := hx'
      exact fin b off o' row (RepMC.of_C _ _ h3) h1 hK
    | _ => exact hK.elim

theorem op_load {lim : Option (Nat → Bool)} {t : TypeId} {x : Operand} (ho : o.op = .load t x) (hT : TOk P c.T) (h : Rel c N F M s a w) (hd : ∀ t, o.dst = some t → t < N) (hx : ∀ t, x = .tmp t → t < N)
    (hK : aLoad c.T lim t (ev c.gl s x) s fun v => K (Ab.put o.dst v s)) : o.wpIn (Fw ro) 0 P a w (Post c N F M w K) Q := by
  obtain ⟨ad, av, u, h1, h2, h3, h4⟩ := aLoad_sound hT h.toHR (h.ev x hx) hK
  refine wp_pure h hd ?_ h3 h4
  simp [execOp, ho, h1, Instr.loadAt, Instr.sureAddr, h2]

/-! stores -/

theorem splice_get {α : Type} (l m : List α) (o j : Nat) (h : o + m.length ≤ l.length) :
    (l.take o ++ m ++ l.drop (o + m.length))[j]? = if j < o then l[j]? else if j < o + m.length then m[j - o]? else l[j]? := by
  have h1 : (l.take o).length = o := by simp; omega
  rw [List.append_assoc]
  by_cases hj : j < o
  · rw [if_pos hj, List.getElem?_append_left (by omega), List.getElem?_take]; simp [hj]
  · rw [if_neg hj, List.getElem?_append_right (by omega), h1]
    by_cases hj2 : j < o + m.length
    · rw [if_pos hj2, List.getElem?_append_left (by omega)]
    · rw [if_neg hj2, List.getElem?_append_right (by omega), List.getElem?_drop]
      congr 1; omega

theorem splice_len {α : Type} (l m : List α) (o : Nat) (h : o + m.length ≤ l.length) : (l.take o ++ m ++ l.drop (o + m.length)).length = l.length := by
  simp; omega

theorem RepMC_of {b : Nat} : ∀ (l : List AV) (o : Nat), (∀ j x, l[j]? = some x → one x = true ∧ ∃ v, w.cell? ⟨b, o + j, none⟩ = some v ∧ RepM w F M x v) → RepMC w F M b l o
  | [], _, _ => trivial
  | x :: l, o, h => by
      unfold RepMC
      refine ⟨by simpa using h 0 x rfl, RepMC_of l (o + 1) fun j y hy => ?_⟩
      have := h (j + 1) y (by simpa using hy)
      rwa [show o + 1 + j = o + (j + 1) by omega]

theorem RepC_of {b : Nat} : ∀ (l : List AV) (o : Nat), (∀ j x, l[j]? = some x → one x = true ∧ ∃ v, w.cell? ⟨b, o + j, none⟩ = some v ∧ RepD w F x v) → RepC w F b l o
  | [], _, _ => by unfold RepC; trivial
  | x :: l, o, h => by
      unfold RepC
      refine ⟨by simpa using h 0 x rfl, RepC_of l (o + 1) fun j y hy => ?_⟩
      have := h (j + 1) y (by simpa using hy)
      rwa [show o + 1 + j = o + (j + 1) by omega]

theorem RepC.at {b : Nat} : ∀ (l : List AV) (o j : Nat) (c : AV), RepC w F b l o → l[j]? = some c → one c = true ∧ ∃ v, w.cell? ⟨b, o + j, none⟩ = some v ∧ RepD w F c v
  | [], _, _, _, _, h => by simp at h
  | c :: cs, o, 0, d, h, e => by
      unfold RepC at h
      simp at e; subst e
      exact h.1
  | c :: cs, o, j + 1, d, h, e => by
      unfold RepC at h
      rw [show o + (j + 1) = o + 1 + j by omega]
      exact RepC.at cs (o + 1) j d h.2 (by simpa using e)

theorem RepDL.get : ∀ (l : List AV) (vs : List Value) (k : Nat) (x : AV), RepDL w F l vs → l[k]? = some x → ∃ v, vs[k]? = some v ∧ RepD w F x v
  | [], _, _, _, _, e => by simp at e
  | x :: l, vs, 0, y, h, e => by
      unfold RepDL at h
      obtain ⟨v, vs', rfl, h2, h3⟩ := h
      simp at e; subst e
      exact ⟨v, rfl, h2⟩
  | x :: l, vs, k + 1, y, h, e => by
      unfold RepDL at h
      obtain ⟨v, vs', rfl, h2, h3⟩ := h
      obtain ⟨u, h4, h5⟩ := RepDL.get l vs' k y h3 (by simpa using e)
      exact ⟨u, by simpa using h4, h5⟩
theorem RepDL.len : ∀ (l : List AV) (vs : List Value), RepDL w F l vs → vs.length = l.length
  | [], _, h => by unfold RepDL at h; rw [h]; rfl
  | c :: cs, vs, h => by
      unfold RepDL at h
      obtain ⟨v, vs', h1, h2, h3⟩ := h
      rw [h1, List.length_cons, RepDL.len cs vs' h3, List.length_cons]

/-- the world after a store of vs at cell o of an owned block -/
theorem store_world {m : MB} (hown : Own w m) {oo : Nat} {vs : List Value} (h1 : ∀ u ∈ vs, u.oneCell' = true) (hfit : oo + vs.length ≤ m.cap * m.sz) :
    ∃ w', (storeCells ⟨m.b, oo, none⟩ vs).run P w = .ok () w' ∧ (∀ b, b ≠ m.b → w'.heap[b]? = w.heap[b]?) ∧ w'.heap.size = w.heap.size ∧ Own w' m ∧
      (∀ B w0, Below B w0 w → B ≤ m.b → Below B w0 w') ∧
      (∀ j, w'.cell? ⟨m.b, j, none⟩ = if j < oo then w.cell? ⟨m.b, j, none⟩ else if j < oo + vs.length then vs[j - oo]? else w.cell? ⟨m.b, j, none⟩) := by
  obtain ⟨cur, hg, hsz⟩ := hown
  have hr := run_storeCells_at P m.b oo m.e vs 0 cur w hg (by rw [hsz]; simpa using hfit) h1
  simp only [Nat.add_zero] at hr
  have hl : oo + vs.length ≤ cur.toList.length := by simp [hsz]; exact hfit
  refine ⟨_, hr, fun b hb => setRow_other w m.b b _ hb, by simp, ⟨_, setRow_heap w m.b cur _ m.e (0, 0) hg, ?_⟩, fun B w0 hB hb => ?_, fun j => ?_⟩
  · have := splice_len cur.toList vs oo hl
    simpa [hsz] using this
  · refine hB.grown (row := some m.b) ⟨rfl, rfl, rfl, by simp, fun k _ hk => setRow_other w m.b k _ (fun e => hk (by rw [e]))⟩ ?_ ?_
    · have := (Array.getElem?_eq_some_iff.1 hg).1; omega
    · intro k hk; cases hk; exact hb
  · rw [cell_of_row _ m.b j _ m.e (0, 0) (setRow_heap w m.b cur _ m.e (0, 0) hg), cell_of_row w m.b j cur m.e (0, 0) hg]
    have := splice_get cur.toList vs oo j hl
    simpa using this

theorem HR.weaken {hp hp' : Nat → Option Blk} {nx : Nat} (h : HR c F M hp nx w) (hl : ∀ k, hp' k = none ∨ hp' k = hp k) : HR c F M hp' nx w := by
  have un : ∀ j b, hp' j = some b → hp j = some b := fun j b hj => by
    rcases hl j with e | e
    · rw [e] at hj; cases hj
    · rw [← e]; exact hj
  have ne : ∀ j, hp' j ≠ none → hp j ≠ none := fun j hj => by
    rcases hl j with e | e
    · exact absurd e hj
    · rw [← e]; exact hj
  refine ⟨fun k cs hk => h.box k cs (un k _ hk), fun k sz rows lv hk => h.arr k sz rows lv (un k _ hk), fun k et cs hk => h.own k et cs (un k _ hk), fun k k' m m' hk hk' => h.inj k k' m m' (ne k hk) (ne k' hk'), fun k hk => ⟨(h.dom k hk).1, ?_⟩, h.fl, h.hist, h.gl, h.bel, h.ml, h.al, h.base, fun k hk => h.res k (un k _ hk)⟩
  rcases hl k with e | e
  · exact e
  · rw [e]; exact (h.dom k hk).2

theorem toD_keys {hp : Nat → Option Blk} {av : AV} {K : AV → Prop} (h : toD hp av K) : ∀ j ∈ keys av, ∃ sz rows lv, hp j = some (.arr sz rows lv) := by
  cases av with
  | ms k off n =>
    simp only [toD] at h
    intro j hj
    simp [keys] at hj
    subst hj
    cases hb : hp j with
    | none => rw [hb] at h; exact h.elim
    | some b =>
      cases b with
      | res => first | exact hK.elim | (rw [hb] at hK; exact hK.elim) | exact h.elim | (rw [hb] at h; exact h.elim) | (rw [hb] at hK2; exact hK2.elim) | (rw [hb] at hK; simp only at hK; exact hK.elim) | exact Sel.no | exact Gives.none | exact Give2.none | exact toDB_ok hp (.ms k off len) | (have := Sel.toD (hp := hp) (.ms k off len); exact this) | exact .inl rfl | (cases hK; done) | (cases h; done)
      | box _ => rw [hb] at h; exact h.elim
      | own _ _ => rw [hb] at h; exact h.elim
      | arr sz rows lv => exact ⟨sz, rows, lv, rfl⟩
  | _ => intro j hj; simp [keys] at hj

theorem toD_some {hp : Nat → Option Blk} {av : AV} {K : AV → Prop} (h : toD hp av K) : ∃ d, K d := by
  cases av with
  | ms k off n =>
    simp only [toD] at h
    cases hb : hp k with
    | none => rw [hb] at h; exact h.elim
    | some b =>
      cases b with
      | res => first | exact hK.elim | (rw [hb] at hK; exact hK.elim) | exact h.elim | (rw [hb] at h; exact h.elim) | (rw [hb] at hK2; exact hK2.elim) | (rw [hb] at hK; simp only at hK; exact hK.elim) | exact Sel.no | exact Gives.none | exact Give2.none | exact toDB_ok hp (.ms k off len) | (have := Sel.toD (hp := hp) (.ms k off len); exact this) | exact .inl rfl | (cases hK; done) | (cases h; done)
      | box _ => rw [hb] at h; exact h.elim
      | own _ _ => rw [hb] at h; exact h.elim
      | arr sz rows lv => rw [hb] at h; exact ⟨_, h.2⟩
  | int k n => exact ⟨_, h⟩
  | bool b => exact ⟨_, h⟩
  | str b => exact ⟨_, h⟩
  | sl rows => exact ⟨_, h⟩
  | nil => exact ⟨_, h⟩
  | _ => exact h.elim

theorem toDs_keys {hp : Nat → Option Blk} : ∀ (l : List AV) {K : List AV → Prop}, toDs hp l K → ∀ j ∈ keysL l, ∃ sz rows lv, hp j = some (.arr sz rows lv)
  | [], _, _, j, hj => by simp [keysL] at hj
  | a :: l, K, h, j, hj => by
      unfold toDs at h
      simp only [keysL, List.mem_append] at hj
      rcases hj with hj | hj
      · exact toD_keys h j hj
      · obtain ⟨d, h⟩ := toD_some h
        exact toDs_keys l h j hj

theorem RepR_of {b sz : Nat} : ∀ (l : List (List AV)) (o : Nat), (∀ r row, l[r]? = some row → row.length = sz ∧ RepC w F b row (o + r * sz)) → RepR w F b sz l o
  | [], _, _ => by unfold RepR; trivial
  | x :: l, o, h => by
      unfold RepR
      have h0 := h 0 x rfl
      refine ⟨h0.1, by simpa using h0.2, RepR_of l (o + sz) fun r row hr => ?_⟩
      have := h (r + 1) row (by simpa using hr)
      rw [show o + (r + 1) * sz = o + sz + r * sz by rw [Nat.add_mul]; omega] at this
      exact this

theorem row_apart {sz q r j oo n : Nat} (hj : j < sz) (hn : oo + n ≤ sz) (hq : q ≠ r) : q * sz + j < r * sz + oo ∨ r * sz + oo + n ≤ q * sz + j := by
  rcases Nat.lt_or_gt_of_ne hq with h | h
  · left
    have := Nat.mul_le_mul_right sz (show q + 1 ≤ r by omega)
    rw [Nat.add_mul] at this; omega
  · right
    have := Nat.mul_le_mul_right sz (show r + 1 ≤ q by omega)
    rw [Nat.add_mul] at this; omega

theorem run_storeAt {t : TypeId} {ti : TypeInfo} {b oo : Nat} {v : Value} {w' : World} (hi : P.info? t = some ti) (hsz : v.cells.size = ti.size) (hr : (storeCells ⟨b, oo, none⟩ v.cells.toList).run P w = .ok () w') :
    (Instr.storeAt t (.pointer (some ⟨b, oo, none⟩)) v).run P w = .ok () w' := by
  simp [Instr.storeAt, Instr.sureAddr, storeVar, Go.sizeOf, typeInfo, hi, hsz, hr]

theorem op_store {t : TypeId} {x y : Operand} (ho : o.op = .store t x y) (hT : TOk P c.T) (h : Rel c N F M s a w) (hd : ∀ t, o.dst = some t → t < N) (hx : ∀ t, x = .tmp t → t < N) (hy : ∀ t, y = .tmp t → t < N)
    (hK : force (ev c.gl s y) fun v => aStore c.T t (ev c.gl s x) v s fun s' => K (Ab.put o.dst .undef s')) : o.wpIn (Fw ro) 0 P a w (Post c N F M w K) Q := by
  rw [force_eq] at hK
  have hx' := h.ev x hx
  have hy' := h.ev y hy
  generalize ev c.gl s x = ax at hx' hK
  generalize ev c.gl s y = ay at hy' hK
  unfold aStore at hK
  cases ht : look c.T t with
  | none => rw [ht] at hK; exact hK.elim
  | some i =>
    rw [ht] at hK
    obtain ⟨ti, d, z, hi, hu, hz, hsz, _⟩ := hT.parts ht
    simp only [lenL_eq, takeL_eq, dropL_eq, appL_eq, forceL_eq] at hK
    cases hbq : Nat.beq i.sz (cells ay).length with
    | false => rw [hbq] at hK; exact hK.elim
    | true =>
      rw [hbq] at hK
      have hbq := Nat.eq_of_beq_eq_true hbq
      cases ax with
      | bp k oo =>
        simp only at hK
        cases hb : s.hp k with
        | none => rw [hb] at hK; exact hK.elim
        | some blk =>
          cases blk with
          | res => first | exact hK.elim | (rw [hb] at hK; exact hK.elim) | exact h.elim | (rw [hb] at h; exact h.elim) | (rw [hb] at hK2; exact hK2.elim) | (rw [hb] at hK; simp only at hK; exact hK.elim) | exact Sel.no | exact Gives.none | exact Give2.none | exact toDB_ok hp (.ms k off len) | (have := Sel.toD (hp := hp) (.ms k off len); exact this) | exact .inl rfl | (cases hK; done) | (cases h; done)
          | arr _ _ _ => rw [hb] at hK; exact hK.elim
          | box cs =>
            rw [hb] at hK
            simp only at hK
            cases hc : and (ones (cells ay)) (Nat.ble (oo + (cells ay).length) cs.length) with
            | false => rw [hc] at hK; exact hK.elim
            | true =>
              rw [hc] at hK
              simp only at hK
              simp only [Bool.and_eq_true] at hc
              have hle := Nat.le_of_ble_eq_true hc.2
              have hcr := cells_rep hc.1 hy'
              obtain ⟨m, h1, h2, h3, h4, h5, h6⟩ := h.box k cs hb
              unfold RepM at hx'
              obtain ⟨m', h7, h8⟩ := hx'
              rw [h1] at h7; cases h7
              have hlen := RepML.len _ _ hcr.1
              have h5' : cs.length ≤ m.cap * m.sz := by rw [h5.1, Nat.mul_one, h5.2]; exact Nat.le_refl _
              obtain ⟨w', r1, r2, r3, r4, r5, r6⟩ := store_world (P := P) h4 (oo := oo) hcr.2 (by omega)
              obtain ⟨g1, g2⟩ := h.toHR.write (k := k) (m := m) (blk := .box (cs.take oo ++ (cells ay ++ cs.drop (oo + (cells ay).length)))) (by rw [hb]; simp) h1 h3 r2 r3 (r5 _ _ h.bel h2) r4 (fun t => by
                have hl : (cs.take oo ++ (cells ay ++ cs.drop (oo + (cells ay).length))).length = cs.length := by
                  rw [← List.append_assoc]; exact splice_len cs (cells ay) oo hle
                refine ⟨by rw [hl]; exact h5, RepMC_of _ 0 fun j x hj => ?_⟩
                rw [← List.append_assoc, splice_get cs (cells ay) oo j hle] at hj
                rw [Nat.zero_add, r6 j, hlen]
                by_cases c1 : j < oo
                · rw [if_pos c1] at hj ⊢
                  obtain ⟨e1, v, e2, e3⟩ := RepMC.at cs 0 j x h6 hj
                  rw [Nat.zero_add] at e2
                  exact ⟨e1, v, e2, e3.tr t⟩
                · rw [if_neg c1] at hj ⊢
                  by_cases c2 : j < oo + (cells ay).length
                  · rw [if_pos c2] at hj ⊢
                    obtain ⟨v, e2, e3⟩ := RepML.get _ _ _ _ hcr.1 hj
                    exact ⟨ones_mem hc.1 x (List.mem_of_getElem? hj), v, e2, e3.tr t⟩
                  · rw [if_neg c2] at hj ⊢
                    obtain ⟨e1, v, e2, e3⟩ := RepMC.at cs 0 j x h6 hj
                    rw [Nat.zero_add] at e2
                    exact ⟨e1, v, e2, e3.tr t⟩)
              refine wp_skip' h hd g1 g2 ?_ hK
              have := run_storeAt (P := P) (w := w) (t := t) (b := m.b) (oo := oo) (v := a.eval y) hi (by rw [← hsz, hbq, ← hlen]; simp) r1
              simp [execOp, ho, h8, this]
          | own et cs =>
            rw [hb] at hK
            simp only at hK
            cases hc : and (ones (cells ay)) (Nat.ble (oo + (cells ay).length) cs.length) with
            | false => rw [hc] at hK; exact hK.elim
            | true =>
              rw [hc] at hK
              simp only at hK
              simp only [Bool.and_eq_true] at hc
              have hle := Nat.le_of_ble_eq_true hc.2
              have hcr := cells_rep hc.1 hy'
              obtain ⟨m, h1, h0, h2, h3, h4, h5, h6⟩ := h.own k et cs hb
              unfold RepM at hx'
              obtain ⟨m', h7, h8⟩ := hx'
              rw [h1] at h7; cases h7
              have hlen := RepML.len _ _ hcr.1
              obtain ⟨w', r1, r2, r3, r4, r5, r6⟩ := store_world (P := P) h4 (oo := oo) hcr.2 (by rw [h0.2]; omega)
              obtain ⟨g1, g2⟩ := h.toHR.write (k := k) (m := m) (blk := .own et (cs.take oo ++ (cells ay ++ cs.drop (oo + (cells ay).length)))) (by rw [hb]; simp) h1 h3 r2 r3 (r5 _ _ h.bel h2) r4 (fun t => by
                have hl : (cs.take oo ++ (cells ay ++ cs.drop (oo + (cells ay).length))).length = cs.length := by
                  rw [← List.append_assoc]; exact splice_len cs (cells ay) oo hle
                refine ⟨h0, by rw [hl]; exact h5, RepMC_of _ 0 fun j x hj => ?_⟩
                rw [← List.append_assoc, splice_get cs (cells ay) oo j hle] at hj
                rw [Nat.zero_add, r6 j, hlen]
                by_cases c1 : j < oo
                · rw [if_pos c1] at hj ⊢
                  obtain ⟨e1, v, e2, e3⟩ := RepMC.at cs 0 j x h6 hj
                  rw [Nat.zero_add] at e2
                  exact ⟨e1, v, e2, e3.tr t⟩
                · rw [if_neg c1] at hj ⊢
                  by_cases c2 : j < oo + (cells ay).length
                  · rw [if_pos c2] at hj ⊢
                    obtain ⟨v, e2, e3⟩ := RepML.get _ _ _ _ hcr.1 hj
                    exact ⟨ones_mem hc.1 x (List.mem_of_getElem? hj), v, e2, e3.tr t⟩
                  · rw [if_neg c2] at hj ⊢
                    obtain ⟨e1, v, e2, e3⟩ := RepMC.at cs 0 j x h6 hj
                    rw [Nat.zero_add] at e2
                    exact ⟨e1, v, e2, e3.tr t⟩)
              refine wp_skip' h hd g1 g2 ?_ hK
              have := run_storeAt (P := P) (w := w) (t := t) (b := m.b) (oo := oo) (v := a.eval y) hi (by rw [← hsz, hbq, ← hlen]; simp) r1
              simp [execOp, ho, h8, this]
      | ap k r oo =>
        simp only at hK
        cases hb : s.hp k with
        | none => rw [hb] at hK; exact hK.elim
        | some blk =>
          cases blk with
          | res => first | exact hK.elim | (rw [hb] at hK; exact hK.elim) | exact h.elim | (rw [hb] at h; exact h.elim) | (rw [hb] at hK2; exact hK2.elim) | (rw [hb] at hK; simp only at hK; exact hK.elim) | exact Sel.no | exact Gives.none | exact Give2.none | exact toDB_ok hp (.ms k off len) | (have := Sel.toD (hp := hp) (.ms k off len); exact this) | exact .inl rfl | (cases hK; done) | (cases h; done)
          | box _ => rw [hb] at hK; exact hK.elim
          | own _ _ => rw [hb] at hK; exact hK.elim
          | arr sz rows lv =>
            cases lv with
            | false => rw [hb] at hK; exact hK.elim
            | true =>
              rw [hb] at hK
              simp only at hK
              obtain ⟨row, hrow, hK⟩ := hK
              obtain ⟨m, h1, h0, h2, h3, h4, h5, h6, h7, h8⟩ := h.arr k sz rows true hb
              have hones : ones (cells ay) = true := by
                have gen : ∀ (l : List AV) {K : List AV → Prop}, toDs (upd k none s.hp) l K → ones l = true := by
                  intro l
                  induction l with
                  | nil => intro _ _; rfl
                  | cons x l ih =>
                    intro K hh
                    unfold toDs at hh
                    have h1 : one x = true := by cases x <;> first | rfl | (simp only [toD] at hh)
                    obtain ⟨d, hh⟩ := toD_some hh
                    simp only [ones, h1, ih hh]; rfl
                exact gen _ hK
              have hcr := cells_rep hones hy'
              have hw := h.toHR.weaken (hp' := upd k none s.hp) (fun j => by
                by_cases e : j = k
                · left; rw [e, upd_same]
                · right; rw [upd_ne e])
              have hkey : k ∉ keysL (cells ay) := fun hk => by
                obtain ⟨_, _, _, e⟩ := toDs_keys _ hK k hk
                rw [upd_same] at e; cases e
              obtain ⟨ds, d1, d2, hK⟩ := toDs_sound hw _ _ hcr.1 hK
              have hds := RepDL.len _ _ d1
              cases hc : Nat.ble (oo + ds.length) row.length with
              | false => rw [hc] at hK; exact hK.elim
              | true =>
                rw [hc] at hK
                simp only at hK
                have hle := Nat.le_of_ble_eq_true hc
                unfold RepM at hx'
                obtain ⟨m', h9, h10⟩ := hx'
                rw [h1] at h9; cases h9
                obtain ⟨f1, f2⟩ := h.toHR.freeze (keysL (cells ay))
                have hfk : frz (keysL (cells ay)) s.hp k = some (.arr sz rows true) := by rw [frz_at, if_neg hkey, hb]
                obtain ⟨m'', e1, _, _, e3, _, _, _, _, e8⟩ := f1.arr k sz rows true hfk
                rw [h1] at e1; cases e1
                have hrl := RepR.at rows 0 r row e8 hrow
                rw [Nat.zero_add] at hrl
                have hrlt : r < rows.length := by
                  rcases Nat.lt_or_ge r rows.length with h | h
                  · exact h
                  · rw [List.getElem?_eq_none h] at hrow; cases hrow
                have hfit : r * m.sz + oo + (a.eval y).cells.toList.length ≤ m.cap * m.sz := by
                  have := Nat.mul_le_mul_right m.sz (show r + 1 ≤ m.cap by omega)
                  rw [Nat.add_mul] at this
                  omega
                obtain ⟨w', r1, r2, r3, r4, r5, r6⟩ := store_world (P := P) h5 (oo := r * m.sz + oo) hcr.2 hfit
                obtain ⟨g1, g2⟩ := f1.write (k := k) (m := m) (w' := w') (blk := .arr sz (rows.set r (row.take oo ++ (ds ++ row.drop (oo + ds.length)))) true) (by rw [hfk]; simp) h1 (e3 rfl) r2 r3 (r5 _ _ h.bel h2) r4 (fun t => by
                  refine ⟨h0, rfl, by simpa using h6, h7, RepR_of _ 0 fun q row' hq => ?_⟩
                  rw [Nat.zero_add]
                  by_cases e : q = r
                  · subst e
                    rw [List.getElem?_set_self hrlt] at hq
                    cases hq
                    have hl : (row.take oo ++ (ds ++ row.drop (oo + ds.length))).length = row.length := by
                      rw [← List.append_assoc]; exact splice_len row ds oo hle
                    refine ⟨by rw [hl]; exact hrl.1, RepC_of _ _ fun j x hj => ?_⟩
                    rw [← List.append_assoc, splice_get row ds oo j hle] at hj
                    rw [r6, hds]
                    by_cases c1 : j < oo
                    · rw [if_pos c1] at hj; rw [if_pos (by omega)]
                      obtain ⟨a1, v, a2, a3⟩ := RepC.at row _ j x hrl.2 hj
                      exact ⟨a1, v, a2, RepD.mono t.foot t.cell _ _ a3⟩
                    · rw [if_neg c1] at hj; rw [if_neg (by omega)]
                      by_cases c2 : j < oo + ds.length
                      · rw [if_pos c2] at hj; rw [if_pos (by omega)]
                        obtain ⟨v, a2, a3⟩ := RepDL.get _ _ _ _ d1 hj
                        refine ⟨d2 x (List.mem_of_getElem? hj), v, by rw [← a2]; congr 1; omega, RepD.mono t.foot t.cell _ _ (RepD.mono (fun b hb => ?_) (fun _ _ => rfl) _ _ a3)⟩
                        rcases hb with hb | ⟨k', mk, sz', rows', lv', b1, b2, b3, b4⟩
                        · exact .inl hb
                        · refine .inr ⟨k', mk, sz', rows', lv', b1, ?_, b3, b4⟩
                          have : k' ≠ k := fun e => hkey (e ▸ b1)
                          rwa [upd_ne this] at b2
                      · rw [if_neg c2] at hj; rw [if_neg (by omega)]
                        obtain ⟨a1, v, a2, a3⟩ := RepC.at row _ j x hrl.2 hj
                        exact ⟨a1, v, a2, RepD.mono t.foot t.cell _ _ a3⟩
                  · rw [List.getElem?_set_ne (fun h => e h.symm)] at hq
                    have hql := RepR.at rows 0 q row' e8 hq
                    rw [Nat.zero_add] at hql
                    refine ⟨hql.1, RepC_of _ _ fun j x hj => ?_⟩
                    have hjl : j < m.sz := by
                      rcases Nat.lt_or_ge j row'.length with h | h
                      · omega
                      · rw [List.getElem?_eq_none h] at hj; cases hj
                    obtain ⟨a1, v, a2, a3⟩ := RepC.at row' _ j x hql.2 hj
                    refine ⟨a1, v, ?_, RepD.mono t.foot t.cell _ _ a3⟩
                    rw [r6, hds]
                    rcases row_apart (n := ds.length) hjl (show oo + ds.length ≤ m.sz by omega) e with h | h
                    · rw [if_pos (by omega)]; exact a2
                    · rw [if_neg (by omega), if_neg (by omega)]; exact a2)
                refine wp_skip' h hd g1 (f2.trans g2) ?_ hK
                have := run_storeAt (P := P) (w := w) (t := t) (b := m.b) (oo := r * m.sz + oo) (v := a.eval y) hi (by rw [← hsz, hbq, ← RepML.len _ _ hcr.1]; simp) r1
                simp [execOp, ho, h10, this]
      | _ => exact hK.elim
end
end Ab
