import Derived.Test.YtbcgkonhkoopnaaGreatXDraw
import Derived.RangeFuncSeq
/-!
Soundness of code, and contracts.
-/
namespace Ab
open Go Go.RowKit

/-- the function may be called by its number -/
def enters (P : Program) (f : FuncId) : Bool :=
  match P.funcs[f]? with
  | some fn => and (not (fn.name == "runtime.NumGoroutine")) fn.body.isSome
  | none => false

/-- how a call ends -/
def Ret (c : Ctx) (F : Foot) (M : Nat → Option MB) (w : World) (s : St) (K : AV → St → Prop) : Ending → World → Prop := fun e w' =>
  ∃ v av s' F' M', e = .returned v ∧ s'.tm = s.tm ∧ HR c F' M' s'.hp s'.nx w' ∧ Tr F M w F' M' w' ∧ RepM w' F' M' av v ∧ K av s'

/-- a call: of a function with a body, or of one that is done in place -/
def Does (P : Program) (f : FuncId) (args : Array Value) (w : World) (R : Ending → World → Prop) : Prop :=
  (enters P f = true ∧ Calls P f args w R) ∨ ∃ v w', (callFunc f args).run P w = .ok (.value v) w' ∧ R (.returned v) w'
theorem Does.mono {P : Program} {f : FuncId} {args : Array Value} {w : World} {R R' : Ending → World → Prop} (h : Does P f args w R) (hR : ∀ e w', R e w' → R' e w') : Does P f args w R' := by
  rcases h with ⟨h1, h2⟩ | ⟨v, w', h1, h2⟩
  · exact .inl ⟨h1, Calls.mono h2 hR⟩
  · exact .inr ⟨v, w', h1, hR _ _ h2⟩
theorem Does.calls {P : Program} {f : FuncId} {args : Array Value} {w : World} {R : Ending → World → Prop} (h : Does P f args w R) (he : enters P f = true) : Calls P f args w R := by
  rcases h with ⟨_, h2⟩ | ⟨v, w', h1, h2⟩
  · exact h2
  · unfold enters at he
    cases hf : P.funcs[f]? with
    | none => rw [hf] at he; cases he
    | some fn =>
      rw [hf] at he
      simp only [Bool.and_eq_true, Bool.not_eq_true'] at he
      obtain ⟨bd, hb⟩ := Option.isSome_iff_exists.1 he.2
      have hn : fn.name ≠ "runtime.NumGoroutine" := by
        intro e; rw [e] at he; simp at he
      simp [callFunc, hf, hn, hb] at h1

def HSound (c : Ctx) (H : Tg → List AV → St → (AV → St → Prop) → Prop) : Prop :=
  ∀ (f : Tg) (args : List AV) (s : St) (K : AV → St → Prop) (F : Foot) (M : Nat → Option MB) (w : World) (vals : List Value), H f args s K → HR c F M s.hp s.nx w → RepML w F M args vals →
    match f with
    | .fn f => Does c.P f ⟨vals⟩ w (Ret c F M w s K)
    | .yl l => YieldAt Fence.wide 0 c.P l ⟨vals⟩ w (Ret c F M w s K)

section
variable {c : Ctx} {ro : Option Nat} {N : Nat} {F F' : Foot} {M M' : Nat → Option MB} {s : St} {a : Act} {w w' : World} {o : Oper} {K : St → Prop} {Q : Exit → Act → World → Prop}
variable {H : Tg → List AV → St → (AV → St → Prop) → Prop}

theorem opndOk_lt {N : Nat} {x : Operand} (h : opndOk N x = true) : ∀ t, x = .tmp t → t < N := by
  intro t e; subst e
  simp only [opndOk, Nat.blt] at h
  exact Nat.le_of_ble_eq_true h

theorem run_call {P : Program} {f : FuncId} {xs caps : Array Value} {g : Operand} {args : Array Operand} {ts : Array TypeId} (ho : o.op = .call { callee := .value g, args := args, argTypes := ts })
    (hg : a.eval g = .func (.func f) #[] caps) (hx : args.map a.eval = xs) (he : enters P f = true) :
    (execOp a.eval o).run P w = .ok (.enter f (xs ++ caps)) w := by
  unfold enters at he
  cases hf : P.funcs[f]? with
  | none => rw [hf] at he; cases he
  | some fn =>
    rw [hf] at he
    simp only [Bool.and_eq_true, Bool.not_eq_true'] at he
    obtain ⟨bd, hb⟩ := Option.isSome_iff_exists.1 he.2
    have hn : fn.name ≠ "runtime.NumGoroutine" := by
      intro e; rw [e] at he; simp at he
    simp [execOp, ho, resolve, hg, Deferred.ofValue, hx, invoke, callFunc, hf, hn, hb]

theorem run_callYield {P : Program} {l : Nat} {xs : Array Value} {g : Operand} {args : Array Operand} {ts : Array TypeId} {r : Result Next} (ho : o.op = .call { callee := .value g, args := args, argTypes := ts })
    (hg : a.eval g = .func (.yield l) #[] #[]) (hx : args.map a.eval = xs) (he : (Instr.yield l xs).run P w = r) :
    (execOp a.eval o).run P w = r := by
  simp [execOp, ho, resolve, hg, Deferred.ofValue, hx, invoke, he]

theorem op_call {g : Operand} {args : Array Operand} {ts : Array TypeId} (ho : o.op = .call { callee := .value g, args := args, argTypes := ts }) (hH : HSound c H) (h : Rel c N F M s a w) (hd : ∀ t, o.dst = some t → t < N)
    (hg : ∀ t, g = .tmp t → t < N) (hx : ∀ x ∈ args.toList, ∀ t, x = .tmp t → t < N)
    (hK : match ev c.gl s g with
      | .fn f cap => forceL (evs c.gl s args.toList) fun vs => H (.fn f) (appL vs cap) s fun v s' => K (Ab.put o.dst v s')
      | .yl l => forceL (evs c.gl s args.toList) fun vs => H (.yl l) vs s fun v s' => K (Ab.put o.dst v s')
      | _ => False) : o.wpIn (Fw ro) 0 c.P a w (Post c N F M w K) Q := by
  have hg' := h.ev g hg
  have hx' := h.evs args.toList hx
  generalize ev c.gl s g = ag at hg' hK
  have fin : ∀ v w', Ret c F M w s (fun v s' => K (Ab.put o.dst v s')) (.returned v) w' → Post c N F M w K (a.put o.dst v) w' := by
    rintro v w' ⟨v', av, s', F', M', e, t1, t2, t3, t4, t5⟩
    cases e
    refine ⟨_, F', M', ?_, t3, t5⟩
    have hr : Rel c N F' M' s' a w' := ⟨t2, fun k hk => by rw [t1]; exact (h.tm k hk).tr t3, h.df.tr t3, h.sz⟩
    exact hr.put hd t4
  cases ag with
  | fn f cap =>
    simp only [forceL_eq, appL_eq] at hK
    unfold RepM at hg'
    obtain ⟨caps, h1, h2⟩ := hg'
    have hdo := hH (.fn f) _ s _ F M w _ hK h.toHR (hx'.app h2)
    have e1 : (⟨args.toList.map a.eval ++ caps⟩ : Array Value) = args.map a.eval ++ ⟨caps⟩ := by apply Array.ext'; simp
    rw [e1] at hdo
    rcases hdo with ⟨he, hc⟩ | ⟨v, w', hr, hret⟩
    rotate_left
    · refine ⟨fun _ _ => trivial, ?_⟩
      have hrun : (execOp a.eval o).run c.P w = .ok (.value v) w' := by
        rw [← hr]
        simp [execOp, ho, resolve, h1, Deferred.ofValue, invoke]
      rw [sem_run hrun (by simp)]
      exact fin v w' hret
    refine ⟨fun _ _ => trivial, ?_⟩
    rw [sem_run (run_call ho h1 rfl he) (by simp)]
    refine ⟨fun _ => by simp_all [Fw], ?_⟩
    have hc' : CallsIn Fence.wide 0 c.P f (args.map a.eval ++ ⟨caps⟩) w _ := callsIn_wide.2 hc
    have hc2 : CallsIn (Fw ro) 0 c.P f (args.map a.eval ++ ⟨caps⟩) w _ := hc'
    refine CallsIn.mono hc2 fun e w' hh => ?_
    obtain ⟨v, av, s', F', M', rfl, hh⟩ := hh
    exact fin v w' ⟨v, av, s', F', M', rfl, hh⟩
  | yl l =>
    simp only [forceL_eq] at hK
    unfold RepM at hg'
    obtain ⟨fn, tmps, assign, body, hy, hr⟩ := hH (.yl l) _ s _ F M w _ hK h.toHR hx'
    have e1 : (⟨args.toList.map a.eval⟩ : Array Value) = args.map a.eval := by apply Array.ext'; simp
    rw [e1] at hy
    refine ⟨fun _ _ => trivial, ?_⟩
    rw [sem_run (run_callYield ho hg' rfl hy) (by simp)]
    refine ⟨fun _ => by simp_all [Fw], ?_⟩
    have hr2 : RoundIn (Fw ro) 0 c.P l fn tmps assign body w _ := hr
    refine RoundIn.mono hr2 fun e w' hh => ?_
    obtain ⟨v, av, s', F', M', rfl, hh⟩ := hh
    exact fin v w' ⟨v, av, s', F', M', rfl, hh⟩
  | _ => exact hK.elim

theorem aOp_sound {lim : Option (Nat → Bool)} (hT : TOk c.P c.T) (hH : HSound c H) (hok : opOk c.P N o = true) (h : Rel c N F M s a w) (hK : aOp c.T c.gl H lim o s K) : o.wpIn (Fw ro) 0 c.P a w (Post c N F M w K) Q := by
  have hd : ∀ t, o.dst = some t → t < N := by
    intro t e
    simp only [opOk, Bool.and_eq_true, e] at hok
    exact Nat.le_of_ble_eq_true hok.1.1
  have hop : ∀ x ∈ o.op.operands.toList, ∀ t, x = .tmp t → t < N := by
    intro x hx
    simp only [opOk, Bool.and_eq_true] at hok
    exact opndOk_lt (List.all_eq_true.1 hok.1.2 x hx)
  obtain ⟨dst, op, type, pos, after, guard⟩ := o
  simp only at hd hop
  cases op with
  | move x => exact op_move (.inl rfl) h hd (hop x (by simp [Op.operands])) hK
  | assign x => exact op_move (.inr rfl) h hd (hop x (by simp [Op.operands])) hK
  | pick x y z => exact op_pick rfl h hd (hop x (by simp [Op.operands])) (hop y (by simp [Op.operands])) (hop z (by simp [Op.operands])) hK
  | alloc e => exact op_alloc rfl hT h hd hK
  | box e x => exact op_box rfl h hd (hop x (by simp [Op.operands])) hK
  | build t ps => exact op_build rfl hT h hd (fun p hp => hop p.2 (by simp [Op.operands]; exact ⟨p.1, by simpa using hp⟩)) hK
  | buildSlice t n ps => exact op_buildSlice rfl hT h hd (fun p hp => hop p.2 (by simp [Op.operands]; exact ⟨p.1, by simpa using hp⟩)) hK
  | load t x => exact op_load rfl hT h hd (hop x (by simp [Op.operands])) hK
  | store t x y => exact op_store rfl hT h hd (hop x (by simp [Op.operands])) (hop y (by simp [Op.operands])) hK
  | nilCheck x => exact op_nilCheck rfl h hd (hop x (by simp [Op.operands])) hK
  | binOp op t x y u => exact op_bin rfl h hd (hop x (by simp [Op.operands])) (hop y (by simp [Op.operands])) hT hK
  | unOp op t x => exact op_un rfl h hd (hop x (by simp [Op.operands])) hK
  | convert t u x =>
    refine op_convert rfl hT ?_ h hd (hop x (by simp [Op.operands])) hK
    simp only [opOk, Bool.and_eq_true] at hok
    exact hok.2
  | makeFunc fn first cap =>
    cases fn with
    | func f =>
      obtain ⟨first⟩ := first
      cases first with
      | nil => exact op_makeFunc rfl h hd (fun x hx => hop x (by simp [Op.operands]; simpa using hx)) hK
      | cons _ _ => exact hK.elim
    | _ => exact hK.elim
  | makeSlice t x y => exact op_makeSlice rfl hT h hd (hop x (by simp [Op.operands])) (hop y (by simp [Op.operands])) hK
  | slice t x lo hi mx =>
    cases mx with
    | none => exact op_slice rfl hT h hd (hop x (by simp [Op.operands])) (fun y hy => hop y (by subst hy; simp [Op.operands])) (fun y hy => hop y (by subst hy; simp [Op.operands])) hK
    | some _ => exact hK.elim
  | fieldAddr t x f => exact op_fieldAddr rfl hT h hd (hop x (by simp [Op.operands])) hK
  | indexAddr t x y => exact op_indexAddr rfl hT h hd (hop x (by simp [Op.operands])) (hop y (by simp [Op.operands])) hK
  | index t x y => exact op_indexU rfl hT h hd (hop x (by simp [Op.operands])) (hop y (by simp [Op.operands])) hK
  | field t x f => exact op_field rfl hT h hd (hop x (by simp [Op.operands])) hK
  | extract x i => exact op_extract rfl h hd (hop x (by simp [Op.operands])) hK
  | call cl =>
    obtain ⟨callee, args, ts⟩ := cl
    have hargs : ∀ x ∈ args.toList, ∀ t, x = .tmp t → t < N := fun x hx => hop x (by cases callee <;> simp [Op.operands, Call.operands] <;> (try right) <;> simpa using hx)
    cases callee with
    | value g => exact op_call rfl hH h hd (hop g (by simp [Op.operands, Call.operands])) hargs hK
    | invoke _ _ => exact hK.elim
    | builtin b =>
      obtain ⟨args⟩ := args
      obtain ⟨ts⟩ := ts
      cases b with
      | len =>
        match args, ts, hK with
        | [x], [t], hK =>
          simp only [aOp, evs] at hK
          cases he : (look c.T t).bind fun i => i.sl with
          | none => rw [he] at hK; exact hK.elim
          | some e =>
            rw [he] at hK
            refine op_len rfl rfl rfl hT he h hd (hargs x (by simp)) (fun q hq => ?_) hK
            rw [hq] at hK; exact hK.elim
      | append =>
        match args, ts, hK with
        | [x, y], [t, u], hK =>
          simp only [aOp, evs] at hK
          cases he : Nat.beq t u with
          | false => rw [he] at hK; exact hK.elim
          | true =>
            rw [he] at hK
            have := Nat.eq_of_beq_eq_true he
            subst this
            exact op_append rfl rfl rfl hT h hd (hargs x (by simp)) (hargs y (by simp)) hK
      | copy =>
        match args, ts, hK with
        | [x, y], [t, u], hK => exact op_copy rfl rfl rfl hT h hd (hargs x (by simp)) (hargs y (by simp)) hK
      | min => exact op_minmax (mx := false) rfl h hd hargs (by
          match args, ts, hK with
          | [], _, hK => exact hK
          | [_], _, hK => exact hK
          | _ :: _ :: _, _, hK => exact hK)
      | max => exact op_minmax (mx := true) rfl h hd hargs (by
          match args, ts, hK with
          | [], _, hK => exact hK
          | [_], _, hK => exact hK
          | _ :: _ :: _, _, hK => exact hK)
      | _ => exact hK.elim
  | _ => exact hK.elim

theorem Rel.of_le (h : Rel c N F M s a w) {s0 : St} (hl : Le s0 s) : Rel c N F M s0 a w := by
  refine ⟨?_, fun t ht => ?_, h.df, h.sz⟩
  · have := h.toHR.weaken hl.hp
    exact ⟨this.box, this.arr, this.own, this.inj, fun k hk => this.dom k (Nat.le_trans hl.nx hk), this.fl, this.hist, this.gl, this.bel, this.ml, this.al, this.base, this.res⟩
  · rcases hl.tm t with e | e
    · rw [e]; unfold RepM; trivial
    · rw [e]; exact h.tm t ht

/-- a slot's bool, known -/
theorem Rel.setBool (h : Rel c N F M s a w) {d : Nat} {b : Bool} (hb : s.tm d = .bool b) : Rel c N F M (Ab.put (some d) (.bool b) s) a w := by
  refine ⟨h.toHR, fun t ht => ?_, h.df, h.sz⟩
  simp only [Ab.put]
  by_cases e : t = d
  · subst e
    have := h.tm t ht
    rw [hb] at this
    simpa using this
  · rw [beq_ne e]; exact h.tm t ht

theorem Oper.wp_post {P : Program} {F0 : Foot} {M0 : Nat → Option MB} {w0 : World} (t : Tr F0 M0 w0 F M w) (h : o.wpIn (Fw ro) 0 P a w (Post c N F M w K) Q) {C : Act → World → Prop}
    (hC : ∀ s' F' M' a' w', Rel c N F' M' s' a' w' → Tr F0 M0 w0 F' M' w' → K s' → C a' w') : o.wpIn (Fw ro) 0 P a w C Q :=
  Oper.wpIn_mono (fun a' w' ⟨s', F', M', r, t', k⟩ => hC s' F' M' a' w' r (t.trans t') k) h

theorem wanted_none {ops : Array Oper} {tmps : Array Value} (h : o.guard = none) : Region.wanted o (yielded ops tmps) = true := by
  simp [Region.wanted, h]

theorem oldA_out {gl : List (Nat × AV)} {op : Op} {old : Bool} {p : Nat → Bool} {s : St} {X : Prop} (h : oldA gl old p op s X) : X := by
  unfold oldA at h
  split at h
  · exact h
  · split at h
    · split at h
      · split at h
        · exact h
        · exact h.elim
      · exact h.elim
    · exact h.elim

theorem op_res {P : Program} {k : Nat} (hT : TOk P c.T) (h : Rel c N F M s a w) (hd : ∀ t, o.dst = some t → t < N) (hK : aRes c.T k o s K) :
    o.guard = none ∧ o.wpIn (Fw ro) 0 P a w (Post c N F M w K) Q := by
  unfold aRes at hK
  cases hk : s.hp k with
  | none => rw [hk] at hK; exact hK.elim
  | some b =>
    cases b with
    | res =>
      rw [hk] at hK
      cases hg : o.guard with
      | some g => rw [hg] at hK; exact hK.elim
      | none =>
        rw [hg] at hK
        refine ⟨rfl, ?_⟩
        cases ho : o.op with
        | alloc e =>
          rw [ho] at hK
          simp only at hK
          cases hl : look c.T e with
          | none => rw [hl] at hK; exact hK.elim
          | some i =>
            rw [hl] at hK
            simp only at hK
            obtain ⟨ti, d, z, hi, hu, hz, _, _, hzv, _⟩ := hT.parts hl
            cases h1 : ones (cells i.zv) with
            | false => rw [h1] at hK; exact hK.elim
            | true =>
              rw [h1] at hK
              rw [hzv] at h1 hK
              have hc := cells_rep (w := w) (F := F) (M := M) h1 (evOfV z)
              have key := h.toHR.fill (w' := w.alloc (.cells ⟨z.cells.toList⟩ e)) hk (m := ⟨w.heap.size, 1, z.cells.toList.length, e⟩) (blk := .box (cells (ofV z))) (fun b hb => alloc_heap _ b hb) (by simp) (Nat.le_refl _)
                (h.bel.alloc h.bel.size _) (alloc_own (by simp)) fun t => ⟨⟨rfl, (RepML.len _ _ hc.1).symm⟩, RepMC_new _ _ 0 (hc.1.tr t) h1 fun j v hj => alloc_cell _ e j v hj⟩
              refine wp_next h hd key.1 key.2 (v := .pointer (some ⟨w.heap.size, 0, none⟩)) ?_ ?_ hK
              · simp [execOp, ho, Instr.alloc, zeroValue, typeInfo, hi, hz, newVar, newRow]
              · unfold RepM; exact ⟨_, if_pos rfl, rfl⟩
        | _ => rw [ho] at hK; exact hK.elim
    | _ => rw [hk] at hK; exact hK.elim

theorem young_out {gl : List (Nat × AV)} {op : Op} {chk : Bool} {p : Nat → Bool} {s : St} {X : Prop} (h : young gl chk p op s X) : X := (young_turn h).1

theorem step_sound {HD : Tg → List AV → St → (AV → St → Prop) → Prop} (hT : TOk c.P c.T) (hHD : HSound c HD) (hH : HSound c H) {fl : Oper → Fl} {p : Nat → Bool} {ops : Array Oper} (hok : ops.toList.all (opOk c.P N) = true) {F0 : Foot} {M0 : Nat → Option MB} {w0 : World} {C : Act → World → Prop}
    {i : Nat} {o : Oper} (hget : ops[i]? = some o) {s : St} {F : Foot} {M : Nat → Option MB} {a : Act} {w : World} (hK : stepA c.T c.gl HD H fl p ops o s K) (h : Rel c N F M s a w) (t : Tr F0 M0 w0 F M w)
    (next : ∀ s' F' M' a' w', Rel c N F' M' s' a' w' → Tr F0 M0 w0 F' M' w' → K s' → C a' w') : wpOpIn (Fw ro) 0 c.P ops Q i C a w := by
  have hmem : o ∈ ops.toList := by
    have : ops.toList[i]? = some o := by simpa using hget
    exact List.mem_of_getElem? this
  have hoo := List.all_eq_true.1 hok o hmem
  have hHH : HSound c (bif (fl o).hs then H else HD) := by cases (fl o).hs <;> assumption
  unfold wpOpIn
  simp only [hget]
  have hdo0 : ∀ t, o.dst = some t → t < N := by
    intro t e
    simp only [opOk, Bool.and_eq_true, e] at hoo
    exact Nat.le_of_ble_eq_true hoo.1.1
  unfold stepA at hK
  cases hky : (fl o).ky with
  | some k =>
    rw [hky] at hK
    simp only at hK
    obtain ⟨hg, hw⟩ := op_res hT h hdo0 hK
    rw [wanted_none hg]
    simp only [if_true]
    exact Oper.wp_post t hw next
  | none =>
  rw [hky] at hK
  simp only at hK
  cases hg : o.guard with
  | none =>
    have e1 : guardOf ops o = none := by simp [guardOf, hg]
    rw [e1] at hK
    rw [wanted_none hg]
    simp only [if_true]
    exact (Oper.wp_post t (aOp_sound hT hHH hoo h (oldA_out (young_out hK))) next)
  | some p =>
    obtain ⟨j, want⟩ := p
    have e1 : guardOf ops o = some ((nth ops.toList j).bind (·.dst), want) := by simp [guardOf, hg]
    rw [e1] at hK
    cases hdj : (nth ops.toList j).bind (·.dst) with
    | none => rw [hdj] at hK; exact hK.elim
    | some d =>
      rw [hdj] at hK
      simp only at hK
      have hdN : d < N := by
        rw [nth_eq] at hdj
        cases hoj : ops.toList[j]? with
        | none => rw [hoj] at hdj; cases hdj
        | some oj =>
          rw [hoj] at hdj
          simp only [Option.bind_some] at hdj
          have := List.all_eq_true.1 hok oj (List.mem_of_getElem? hoj)
          simp only [opOk, Bool.and_eq_true, hdj] at this
          exact Nat.le_of_ble_eq_true this.1.1
      cases hb : s.tm d with
      | bool b =>
        rw [hb] at hK
        simp only at hK
        have hrv := h.tm d hdN
        rw [hb] at hrv
        unfold RepM at hrv
        have hy : yielded ops a.tmps j = some b := by
          have hds : a.tmps[d]? = some (.bool b) := by
            have hlt : d < a.tmps.size := by rw [h.sz]; exact hdN
            simp only [Array.getD_eq_getD_getElem?] at hrv
            rw [Array.getElem?_eq_getElem hlt] at hrv ⊢
            simpa using hrv
          unfold yielded
          have : (ops[j]?).bind (·.dst) = some d := by
            rw [nth_eq] at hdj
            simpa using hdj
          rw [this]
          simp [hds]
        have hw : Region.wanted o (yielded ops a.tmps) = (b == want) := by
          simp [Region.wanted, hg, hy]
        rw [hw]
        by_cases e : b = want
        · subst e
          simp only [beq_self_eq_true, if_true]
          exact (Oper.wp_post t (aOp_sound hT hHH hoo (h.setBool hb) (oldA_out (young_out (hK.1 rfl)))) next)
        · have e2 : b = !want := by cases b <;> cases want <;> simp_all
          have e3 : (b == want) = false := by simpa using e
          rw [e3]
          simp only [Bool.false_eq_true, if_false]
          have h2 := h.setBool hb
          rw [e2] at h2
          have hdo : ∀ t, o.dst = some t → t < N := by
            intro t e
            simp only [opOk, Bool.and_eq_true, e] at hoo
            exact Nat.le_of_ble_eq_true hoo.1.1
          exact ⟨fun _ _ => trivial, next _ _ _ _ _ (h2.put hdo (av := .tup []) (v := undef) (by unfold RepM; exact ⟨[], rfl, by unfold RepML; rfl⟩)) t (hK.2 e2)⟩
      | tup l =>
        rw [hb] at hK
        cases l with
        | cons _ _ => exact hK.elim
        | nil =>
          simp only at hK
          have hrv := h.tm d hdN
          rw [hb] at hrv
          unfold RepM at hrv
          obtain ⟨us, e0, e1⟩ := hrv
          unfold RepML at e1
          subst e1
          have hy : yielded ops a.tmps j = none := by
            have hlt : d < a.tmps.size := by rw [h.sz]; exact hdN
            have hds : a.tmps[d]? = some (.tuple ⟨[]⟩) := by
              simp only [Array.getD_eq_getD_getElem?] at e0
              rw [Array.getElem?_eq_getElem hlt] at e0 ⊢
              simpa using e0
            unfold yielded
            have : (ops[j]?).bind (·.dst) = some d := by
              rw [nth_eq] at hdj
              simpa using hdj
            rw [this]
            simp [hds]
          have hw : Region.wanted o (yielded ops a.tmps) = false := by
            simp [Region.wanted, hg, hy]
          rw [hw]
          simp only [Bool.false_eq_true, if_false]
          have hdo : ∀ t, o.dst = some t → t < N := by
            intro t e
            simp only [opOk, Bool.and_eq_true, e] at hoo
            exact Nat.le_of_ble_eq_true hoo.1.1
          exact ⟨fun _ _ => trivial, next _ _ _ _ _ (h.put hdo (av := .tup []) (v := undef) (by unfold RepM; exact ⟨[], rfl, by unfold RepML; rfl⟩)) t hK⟩
      | _ => rw [hb] at hK; exact hK.elim

theorem aOps_sound {HD : Tg → List AV → St → (AV → St → Prop) → Prop} (hT : TOk c.P c.T) (hHD : HSound c HD) (hH : HSound c H) {fl : Oper → Fl} {p : Nat → Bool} {ops : Array Oper} (hok : ops.toList.all (opOk c.P N) = true) {F0 : Foot} {M0 : Nat → Option MB} {w0 : World}
    (hC : ∀ s' F' M' a' w', Rel c N F' M' s' a' w' → Tr F0 M0 w0 F' M' w' → K s' → Q .normal a' w') :
    ∀ (n i : Nat) (s : St) (F : Foot) (M : Nat → Option MB) (a : Act) (w : World), i + n = ops.size → aOps c.T c.gl HD H fl p ops (ops.toList.drop i) s K → Rel c N F M s a w → Tr F0 M0 w0 F M w →
      wpOpsIn (Fw ro) 0 c.P ops Q (List.range' i n) a w
  | 0, i, s, F, M, a, w, hi, hK, h, t => by
      rw [List.drop_of_length_le (by simp; omega)] at hK
      exact hC s F M a w h t hK
  | n + 1, i, s, F, M, a, w, hi, hK, h, t => by
      have hlt : i < ops.toList.length := by simp; omega
      rw [List.drop_eq_getElem_cons hlt] at hK
      have hget : ops[i]? = some ops.toList[i] := by simp
      rw [List.range'_succ, wpOpsIn_cons]
      rw [aOps_cons] at hK
      exact step_sound hT hHD hH hok hget hK h t fun s' F' M' a' w' r t' k => aOps_sound hT hHD hH hok hC n (i + 1) s' F' M' a' w' (by omega) k r t'

theorem mem_numbered : ∀ {l : List Oper} {ms : List Nat} {i j m : Nat} {o : Oper}, (j, m, o) ∈ numbered l ms i → i ≤ j ∧ l[j - i]? = some o ∧ ms[j - i]? = some m
  | [], ms, i, j, m, o, h => by cases h
  | x :: l, [], i, j, m, o, h => by cases h
  | x :: l, y :: ms, i, j, m, o, h => by
      unfold numbered at h
      rcases List.mem_cons.1 h with h | h
      · cases h
        simp
      · obtain ⟨h1, h2, h3⟩ := mem_numbered h
        have h1' : i + 1 ≤ j := h1
        have : j - i = (j - Nat.succ i) + 1 := by omega
        rw [this]
        exact ⟨by omega, by simpa using h2, by simpa using h3⟩

/-- what the check of a region's order says of the list from some place on -/
inductive Good (fl : Oper → Fl) (ops : Array Oper) (masks : List Nat) : List (Nat × Nat × Oper) → Prop
  | nil : Good fl ops masks []
  | cons {i m : Nat} {o : Oper} {l} (h1 : aheadOk masks i m o = true) (h2 : ∀ p ∈ l, Nat.testBit p.2.1 i = true ∨ indep fl ops o p.2.2 = true) (h : Good fl ops masks l) : Good fl ops masks ((i, m, o) :: l)

theorem pairsOk_good {fl : Oper → Fl} {ops : Array Oper} {masks : List Nat} : ∀ {l : List (Nat × Nat × Oper)}, pairsOk fl ops masks l = true → Good fl ops masks l
  | [], _ => .nil
  | (i, m, o) :: l, h => by
      simp only [pairsOk, Bool.and_eq_true, List.all_eq_true, Bool.or_eq_true] at h
      exact .cons h.1.1 h.1.2 (pairsOk_good h.2)

theorem Good.sub {fl : Oper → Fl} {ops : Array Oper} {masks : List Nat} {l : List (Nat × Nat × Oper)} (f : Nat × Nat × Oper → Bool) (h : Good fl ops masks l) : Good fl ops masks (l.filter f) := by
  induction h with
  | nil => exact .nil
  | @cons i m o l h1 h2 h ih =>
    rw [List.filter_cons]
    split
    · exact .cons h1 (fun p hp => h2 p (List.mem_filter.1 hp).1) ih
    · exact ih

theorem Good.split {fl : Oper → Fl} {ops : Array Oper} {masks : List Nat} {l1 l2 : List (Nat × Nat × Oper)} {i m : Nat} {o : Oper} (h : Good fl ops masks (l1 ++ (i, m, o) :: l2)) :
    aheadOk masks i m o = true ∧ ∀ p ∈ l1, Nat.testBit m p.1 = true ∨ indep fl ops p.2.2 o = true := by
  induction l1 with
  | nil =>
    cases h with
    | cons h1 h2 h => exact ⟨h1, by simp⟩
  | cons p l1 ih =>
    cases h with
    | cons h1 h2 h =>
      obtain ⟨g1, g2⟩ := ih h
      refine ⟨g1, fun q hq => ?_⟩
      rcases List.mem_cons.1 hq with e | hq
      · subst e; exact h2 (i, m, o) (by simp)
      · exact g2 q hq

theorem numbered_sorted : ∀ (l : List Oper) (ms : List Nat) (i : Nat), (numbered l ms i).Pairwise fun p q => p.1 < q.1
  | [], ms, i => List.Pairwise.nil
  | x :: l, [], i => List.Pairwise.nil
  | x :: l, y :: ms, i => by
      unfold numbered
      refine List.Pairwise.cons (fun q hq => ?_) (numbered_sorted l ms _)
      obtain ⟨j, m, o⟩ := q
      exact (mem_numbered hq).1

theorem numbered_mem : ∀ {l : List Oper} {ms : List Nat} {i j : Nat} {o : Oper}, ms.length = l.length → l[j]? = some o → ∃ m, ms[j]? = some m ∧ (i + j, m, o) ∈ numbered l ms i
  | [], ms, i, j, o, _, h => by simp at h
  | x :: l, [], i, j, o, hl, h => by simp at hl
  | x :: l, y :: ms, i, 0, o, hl, h => by
      simp at h; subst h
      exact ⟨y, by simp, by unfold numbered; simp⟩
  | x :: l, y :: ms, i, j + 1, o, hl, h => by
      obtain ⟨m, h1, h2⟩ := numbered_mem (l := l) (ms := ms) (i := Nat.succ i) (j := j) (by simpa using hl) (by simpa using h)
      refine ⟨m, by simpa using h1, ?_⟩
      unfold numbered
      rw [show i + (j + 1) = Nat.succ i + j by omega]
      exact List.mem_cons_of_mem _ h2

theorem numbered_map : ∀ {l : List Oper} {ms : List Nat} {i : Nat}, ms.length = l.length → (numbered l ms i).map (·.2.2) = l
  | [], ms, i, _ => rfl
  | x :: l, [], i, hl => by simp at hl
  | x :: l, y :: ms, i, hl => by
      unfold numbered
      simp only [List.map_cons]
      rw [numbered_map (by simpa using hl)]

theorem foldl_length {α : Type} (g : List Nat → α → Nat) : ∀ (l : List α) (acc : List Nat), (l.foldl (fun acc o => acc ++ [g acc o]) acc).length = acc.length + l.length
  | [], acc => by simp
  | x :: l, acc => by rw [List.foldl_cons, foldl_length g l]; simp; omega
theorem aheadOf_length (ops : List Oper) : (aheadOf ops).length = ops.length := by
  unfold aheadOf
  rw [foldl_length]
  simp

/-- all that is listed has what is ahead of it listed -/
def Closed (masks : List Nat) (listed : Array Bool) : Prop := ∀ j k m, listed.getD j false = true → masks[j]? = some m → k < j → Nat.testBit m k = true → listed.getD k false = true

theorem ahead_listed {ops : Array Oper} {masks : List Nat} {listed : Array Bool} (hc : Closed masks listed) {i m : Nat} {o : Oper} (ho : ops[i]? = some o) (ha : aheadOk masks i m o = true) (hr : i ∈ Region.ready .any ops listed)
    {k : Nat} (hk : k < i) (hb : Nat.testBit m k = true) : listed.getD k false = true := by
  rw [mem_ready] at hr
  obtain ⟨h0, o', ho', hall⟩ := hr
  rw [ho] at ho'; cases ho'
  simp only [aheadOk, Bool.and_eq_true, List.all_eq_true, List.mem_range] at ha
  have h2 := ha.2 k hk
  rw [hb] at h2
  simp only [List.any_eq_true] at h2
  obtain ⟨e, he, h2⟩ := h2
  have h1 := ha.1 e he
  cases hbd : Region.binds .any e with
  | false => rw [hbd] at h2; cases h2
  | true =>
    rw [hbd] at h1 h2
    have hl := hall e (by simpa using he) hbd
    simp only [Bool.or_eq_true, Bool.and_eq_true] at h2
    rcases h2 with h2 | ⟨h3, h2⟩
    · rw [← Nat.eq_of_beq_eq_true h2]; exact hl
    · rw [nth_eq] at h2
      cases hm : masks[e.on]? with
      | none => rw [hm] at h2; simp at h2
      | some m' =>
        rw [hm] at h2
        exact hc e.on k m' hl hm (Nat.le_of_ble_eq_true h3) h2

theorem any_sound {HD : Tg → List AV → St → (AV → St → Prop) → Prop} (hT : TOk c.P c.T) (hHD : HSound c HD) (hM : HMakes HD) (hH : HSound c H) {fl : Oper → Fl} {p : Nat → Bool} (hold : ∀ o, (fl o).old = true → turnsOp o.op = true) (hkp : ∀ o k, (fl o).ky = some k → p k = false) {ops : Array Oper} {masks : List Nat} (hms : masks.length = ops.toList.length) (hok : ops.toList.all (opOk c.P N) = true)
    (hg : Good fl ops masks (numbered ops.toList masks 0)) {F0 : Foot} {M0 : Nat → Option MB} {w0 : World}
    (hC : ∀ s' F' M' a' w', Rel c N F' M' s' a' w' → Tr F0 M0 w0 F' M' w' → K s' → Q .normal a' w') :
    ∀ (fuel : Nat) (listed : Array Bool) (s : St) (F : Foot) (M : Nat → Option MB) (a : Act) (w : World), listed.size = ops.size → Closed masks listed →
      ((numbered ops.toList masks 0).filter fun p => !listed.getD p.1 true).length ≤ fuel →
      aOps c.T c.gl HD H fl p ops (((numbered ops.toList masks 0).filter fun p => !listed.getD p.1 true).map (·.2.2)) s K → Rel c N F M s a w → Tr F0 M0 w0 F M w →
      wpAnyIn (Fw ro) 0 c.P .any ops Q fuel listed a w := by
  have hrd : ∀ (listed : Array Bool) i, i ∈ Region.ready .any ops listed → ∃ m o, ops[i]? = some o ∧ masks[i]? = some m ∧ (i, m, o) ∈ (numbered ops.toList masks 0).filter fun p => !listed.getD p.1 true := by
    intro listed i hi
    rw [mem_ready] at hi
    obtain ⟨h0, o, ho, hall⟩ := hi
    obtain ⟨m, h1, h2⟩ := numbered_mem (l := ops.toList) (ms := masks) (i := 0) (j := i) (o := o) hms (by simpa using ho)
    refine ⟨m, o, ho, h1, List.mem_filter.2 ⟨by simpa using h2, by rw [h0]; rfl⟩⟩
  intro fuel
  induction fuel with
  | zero =>
    intro listed s F M a w hsz hc hf hK h t
    have he : ((numbered ops.toList masks 0).filter fun p => !listed.getD p.1 true) = [] := List.eq_nil_of_length_eq_zero (by omega)
    rw [he] at hK
    refine ⟨?_, hC s F M a w h t hK⟩
    refine List.eq_nil_iff_forall_not_mem.2 fun i hi => ?_
    obtain ⟨m, o, _, _, h3⟩ := hrd listed i hi
    rw [he] at h3; cases h3
  | succ fuel ih =>
    intro listed s F M a w hsz hc hf hK h t
    have hsort := (numbered_sorted ops.toList masks 0).filter (fun p => !listed.getD p.1 true)
    have hgood := hg.sub (fun p => !listed.getD p.1 true)
    refine ⟨fun hr => ?_, fun i hi => ?_⟩
    · cases hl : (numbered ops.toList masks 0).filter fun p => !listed.getD p.1 true with
      | nil => rw [hl] at hK; exact hC s F M a w h t hK
      | cons p rest =>
        exfalso
        obtain ⟨i, m, o⟩ := p
        have hmem : (i, m, o) ∈ (numbered ops.toList masks 0).filter fun p => !listed.getD p.1 true := by rw [hl]; simp
        have hm := List.mem_filter.1 hmem
        obtain ⟨_, g2, g3⟩ := mem_numbered hm.1
        have hun : listed.getD i true = false := by simpa using hm.2
        rw [hl] at hgood hsort
        obtain ⟨ha, _⟩ := Good.split (l1 := []) hgood
        have : i ∈ Region.ready .any ops listed := by
          rw [mem_ready]
          refine ⟨hun, o, by simpa using g2, fun e he hb => ?_⟩
          simp only [aheadOk, Bool.and_eq_true, List.all_eq_true] at ha
          have h1 := ha.1 e (by simpa using he)
          rw [hb] at h1
          have hei : e.on < i := Nat.le_of_ble_eq_true h1
          cases hle : listed.getD e.on false with
          | true => rfl
          | false =>
            exfalso
            have hisz : i < ops.size := by
              have : ops[i]? = some o := by simpa using g2
              exact (Array.getElem?_eq_some_iff.1 this).1
            have hle' : listed.getD e.on true = false := by
              have hlt : e.on < listed.size := by omega
              simp only [Array.getD_eq_getD_getElem?, Array.getElem?_eq_getElem hlt, Option.getD_some] at hle ⊢
              exact hle
            have hlt : e.on < ops.toList.length := by simp; omega
            obtain ⟨m', k1, k2⟩ := numbered_mem (l := ops.toList) (ms := masks) (i := 0) (j := e.on) hms (List.getElem?_eq_getElem hlt)
            have : (e.on, m', ops.toList[e.on]) ∈ (numbered ops.toList masks 0).filter fun p => !listed.getD p.1 true := List.mem_filter.2 ⟨by simpa using k2, by simp only [hle']; rfl⟩
            rw [hl] at this
            rcases List.mem_cons.1 this with q | q
            · cases q; omega
            · have := List.rel_of_pairwise_cons hsort q
              simp only at this
              omega
        rw [hr] at this; cases this
    · obtain ⟨m, o, ho, hmi, hmem⟩ := hrd listed i hi
      obtain ⟨l1, l2, hl⟩ := List.append_of_mem hmem
      rw [hl] at hgood hsort
      obtain ⟨ha, hin⟩ := hgood.split
      have hsp := List.pairwise_append.1 hsort
      have hlt1 : ∀ p ∈ l1, p.1 < i := fun p hp => hsp.2.2 p hp (i, m, o) (by simp)
      have hlt2 : ∀ p ∈ l2, i < p.1 := fun p hp => List.rel_of_pairwise_cons hsp.2.1 hp
      have hunl : ∀ p ∈ l1, listed.getD p.1 true = false := by
        intro p hp
        have : p ∈ (numbered ops.toList masks 0).filter fun p => !listed.getD p.1 true := by rw [hl]; simp [hp]
        simpa using (List.mem_filter.1 this).2
      have hindep : ∀ x ∈ l1.map (·.2.2), indep fl ops x o = true := by
        intro x hx
        obtain ⟨p, hp, rfl⟩ := List.mem_map.1 hx
        rcases hin p hp with hb | hb
        · exfalso
          have h1 := ahead_listed hc ho ha hi (hlt1 p hp) hb
          have h2 := hunl p hp
          have hlt : p.1 < listed.size := by
            have : i < ops.size := (Array.getElem?_eq_some_iff.1 ho).1
            have := hlt1 p hp
            omega
          simp only [Array.getD_eq_getD_getElem?, Array.getElem?_eq_getElem hlt, Option.getD_some] at h1 h2
          rw [h1] at h2; cases h2
        · exact hb
      rw [hl, List.map_append, List.map_cons] at hK
      have hK2 := front hM hold hkp _ _ hindep hK
      rw [aOps_cons] at hK2
      refine step_sound hT hHD hH hok ho hK2 h t fun s' F' M' a' w' r t' k => ?_
      have hisz : i < listed.size := by rw [hsz]; exact (Array.getElem?_eq_some_iff.1 ho).1
      have hfil : ((numbered ops.toList masks 0).filter fun p => !(listed.setIfInBounds i true).getD p.1 true) = l1 ++ l2 := by
        have e1 : (fun p : Nat × Nat × Oper => !(listed.setIfInBounds i true).getD p.1 true) = fun p => (!listed.getD p.1 true) && !(p.1 == i) := by
          funext p
          by_cases e : i = p.1
          · rw [← e]
            simp [hisz]
          · rw [getD_set_ne true e]
            have : (p.1 == i) = false := by simpa using (Ne.symm e)
            rw [this]; simp
        rw [e1]
        have e2 : ((numbered ops.toList masks 0).filter fun p => (!listed.getD p.1 true) && !(p.1 == i)) = ((numbered ops.toList masks 0).filter fun p => !listed.getD p.1 true).filter fun p => !(p.1 == i) := by
          rw [List.filter_filter]
          congr 1
          funext p
          exact Bool.and_comm _ _
        rw [e2, hl, List.filter_append, List.filter_cons]
        have e3 : l1.filter (fun p => !(p.1 == i)) = l1 := List.filter_eq_self.2 fun p hp => by
          have := hlt1 p hp
          simp; omega
        have e4 : l2.filter (fun p => !(p.1 == i)) = l2 := List.filter_eq_self.2 fun p hp => by
          have := hlt2 p hp
          simp; omega
        rw [e3, e4]
        simp
      refine ih _ s' F' M' a' w' (by simpa using hsz) ?_ ?_ (by rw [hfil, List.map_append]; exact k) r t'
      · intro j kk m' hj hm' hk hb
        by_cases e : i = j
        · subst e
          rw [hmi] at hm'; cases hm'
          exact getD_set_true (ahead_listed hc ho ha hi hk hb)
        · rw [getD_set_ne false e] at hj
          exact getD_set_true (hc j kk m' hj hm' hk hb)
      · rw [hfil]
        rw [hl] at hf
        simp at hf ⊢
        omega

theorem exists_least (p : Nat → Prop) (h : ∃ n, p n) : ∃ n, p n ∧ ∀ m, p m → n ≤ m := by
  obtain ⟨n, hn⟩ := h
  induction n using Nat.strongRecOn with
  | ind n ih =>
    by_cases hm : ∃ m, m < n ∧ p m
    · obtain ⟨m, h1, h2⟩ := hm
      exact ih m h1 h2
    · exact ⟨n, hn, fun m h2 => Nat.le_of_not_lt fun h1 => hm ⟨m, h1, h2⟩⟩

end
end Ab
