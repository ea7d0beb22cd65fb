import Derived.Test.YtbcgkonhkoopnaaGreatXSound
/-!
Contracts out of abstract runs.
-/
namespace Ab
open Go Go.RowKit

theorem plain_rep {w w' : World} {F F' : Foot} {M : Nat → Option MB} : ∀ {r : AV} {v : Value}, plain r = true → RepD w F r v → RepM w' F' M r v
  | .int _ _, _, _, h => h
  | .bool _, _, _, h => h
  | .str _, _, _, h => h
theorem plains_rep {w w' : World} {F F' : Foot} {M : Nat → Option MB} : ∀ {rs : List AV} {vs : List Value}, plains rs = true → RepDL w F rs vs → RepML w' F' M rs vs
  | [], _, _, h => by unfold RepDL at h; unfold RepML; exact h
  | r :: rs, vs, hp, h => by
      simp only [plains, Bool.and_eq_true] at hp
      unfold RepDL at h; unfold RepML
      obtain ⟨v, vs', h1, h2, h3⟩ := h
      exact ⟨v, vs', h1, plain_rep hp.1 h2, plains_rep hp.2 h3⟩
theorem plainR_rep {w w' : World} {F F' : Foot} {M : Nat → Option MB} {r : AV} {v : Value} (hp : plainR r = true) (h : RepD w F r v) : RepM w' F' M r v := by
  cases r with
  | tup vs =>
    unfold RepD at h; unfold RepM
    obtain ⟨us, h1, h2⟩ := h
    exact ⟨us, h1, plains_rep hp h2⟩
  | int k n => exact plain_rep rfl h
  | bool b => exact plain_rep rfl h
  | str b => exact plain_rep rfl h
  | _ => cases hp

theorem keep_call {c : Ctx} {F : Foot} {M : Nat → Option MB} {hp : Nat → Option Blk} {nx : Nat} {w w' : World} (h : HR c F M hp nx w) (hb : Below w.heap.size w w') :
    HR c F M hp nx w' ∧ Tr F M w F M w' :=
  h.keep (fun b hlt => hb.block b hlt) (fun _ h => h) (fun _ h => .inl h) (fun b hf => Nat.lt_of_lt_of_le (h.fl b hf) hb.size) (h.bel.trans (hb.mono h.bel.size))

theorem keep_call_new {c : Ctx} {F : Foot} {M : Nat → Option MB} {hp : Nat → Option Blk} {nx : Nat} {w w' : World} (h : HR c F M hp nx w) (hb : Below w.heap.size w w') :
    HR c (fun b => F b ∨ (w.heap.size ≤ b ∧ b < w'.heap.size)) M hp nx w' ∧ Tr F M w (fun b => F b ∨ (w.heap.size ≤ b ∧ b < w'.heap.size)) M w' :=
  h.keep (fun b hlt => hb.block b hlt) (fun _ h => .inl h) (fun b h => by rcases h with h | h; exact .inl h; exact .inr h.1)
    (fun b hf => by rcases hf with hf | hf; exact Nat.lt_of_lt_of_le (h.fl b hf) hb.size; exact hf.2) (h.bel.trans (hb.mono h.bel.size))

theorem callP_sound {c : Ctx} {f : FuncId} {args : List AV} {s : St} {K : AV → St → Prop} {F : Foot} {M : Nat → Option MB} {w : World} {vals : List Value}
    (hK : toPs s.hp args fun ds => ∃ r, Spec c.P c.gl f ds r ∧ match plainR r with | true => K r s | false => False) (h : HR c F M s.hp s.nx w) (hv : RepML w F M args vals) : Does c.P f ⟨vals⟩ w (Ret c F M w s K) := by
  obtain ⟨ds, h1, r, hs, hK⟩ := toPs_sound h args vals hv hK
  refine Does.mono (hs w _ vals (fun b hb => frzP_lt h hb) (fun g av hg => RepM.mono (fun b hb => .inl hb) (fun _ _ => rfl) (fun _ _ h => h) _ _ (h.gl g av hg)) h1) fun e w' hh => ?_
  obtain ⟨v, rfl, k1, k2⟩ := hh
  cases hp : plainR r with
  | true =>
    rw [hp] at hK
    obtain ⟨g1, g2⟩ := keep_call h k2
    exact ⟨v, r, s, F, M, rfl, rfl, g1, g2, plainR_rep hp k1, hK⟩
  | false => rw [hp] at hK; exact hK.elim

theorem callS_sound (c : Ctx) : HSound c (callS c.P c.gl) := by
  intro f args s K F M w vals hK h hv
  unfold callS at hK
  cases f with
  | yl l => exact hK.elim
  | fn f =>
  simp only at hK ⊢
  cases hx : boxy s.hp args with
  | true => rw [hx] at hK; exact callP_sound hK h hv
  | false =>
  rw [hx] at hK
  obtain ⟨ds, h1, r, hs, hK⟩ := toDAs_sound h args vals hv hK
  obtain ⟨f1, f2⟩ := h.freeze (keysAs args)
  refine Does.mono (hs w _ vals f1.fl (fun g av hg => f1.gl g av hg) h1) fun e w' hh => ?_
  obtain ⟨v, rfl, k1, k2⟩ := hh
  cases hp : plainR r with
  | true =>
    rw [hp] at hK
    obtain ⟨g1, g2⟩ := keep_call h k2
    exact ⟨v, r, s, F, M, rfl, rfl, g1, g2, plainR_rep hp k1, hK⟩
  | false =>
    rw [hp] at hK
    obtain ⟨g1, g2⟩ := keep_call_new f1 k2
    exact ⟨v, r, ⟨s.tm, frz (keysAs args) s.hp, s.nx⟩, _, M, rfl, rfl, g1, f2.trans g2, RepM.of_D _ _ k1, hK⟩

theorem callW_sound (c : Ctx) : HSound c (callW c.P c.gl) := by
  intro f args s K F M w vals hK h hv
  unfold callW at hK
  cases f with
  | yl l => exact hK.elim
  | fn f =>
  simp only at hK ⊢
  cases hx : boxy s.hp args with
  | true => rw [hx] at hK; exact callP_sound hK h hv
  | false =>
  rw [hx] at hK
  obtain ⟨ds, h1, r, hs, hK⟩ := toWs_sound h args vals hv hK
  obtain ⟨f1, f2⟩ := h.freezeW (keysWs s.hp args)
  refine Does.mono (hs w _ vals f1.fl (fun g av hg => f1.gl g av hg) h1) fun e w' hh => ?_
  obtain ⟨v, rfl, k1, k2⟩ := hh
  cases hp : plainR r with
  | true =>
    rw [hp] at hK
    obtain ⟨g1, g2⟩ := keep_call h k2
    exact ⟨v, r, s, F, M, rfl, rfl, g1, g2, plainR_rep hp k1, hK⟩
  | false =>
    rw [hp] at hK
    obtain ⟨g1, g2⟩ := keep_call_new f1 k2
    exact ⟨v, r, ⟨s.tm, frzW (keysWs s.hp args) s.hp, s.nx⟩, _, M, rfl, rfl, g1, f2.trans g2, RepM.of_D _ _ k1, hK⟩

section
variable {c : Ctx} {F F' : Foot} {M M' : Nat → Option MB} {w : World}

theorem resA_sound (hT : TOk c.P c.T) {N : Nat} {s : St} {a : Act} (h : Rel c N F M s a w) : ∀ (rs : List ResultVar) (K : List AV → Prop),
    (rs.all fun r => match r with | .tmp t => Nat.blt t N | .cell a _ => Nat.blt a N) = true → resA c.T s rs K →
    ∃ vs us, (rs.mapM (m := Sem) fun x => match x with
      | .tmp t => pure (a.tmps.getD t undef)
      | .cell b t => do loadVar t (← asAddr (a.tmps.getD b undef))).run c.P w = .ok us w ∧ RepML w F M vs us ∧ K vs
  | [], K, _, hK => ⟨[], [], rfl, by unfold RepML; rfl, hK⟩
  | .tmp t :: rs, K, hN, hK => by
      simp only [List.all_cons, Bool.and_eq_true] at hN
      have ht : t < N := Nat.le_of_ble_eq_true hN.1
      unfold resA at hK
      rw [force_eq] at hK
      obtain ⟨vs, us, h1, h2, h3⟩ := resA_sound hT h rs _ hN.2 hK
      refine ⟨s.tm t :: vs, a.tmps.getD t undef :: us, ?_, by unfold RepML; exact ⟨_, _, rfl, h.tm t ht, h2⟩, h3⟩
      simp only [List.mapM_cons, Sem.run_bind, Sem.run_pure, Result.andThen, h1]
  | .cell b t :: rs, K, hN, hK => by
      simp only [List.all_cons, Bool.and_eq_true] at hN
      have ht : b < N := Nat.le_of_ble_eq_true hN.1
      unfold resA at hK
      obtain ⟨ad, av, u, e1, e2, e3, e4⟩ := aLoad_sound hT h.toHR (h.tm b ht) hK
      obtain ⟨vs, us, h1, h2, h3⟩ := resA_sound hT h rs _ hN.2 e4
      refine ⟨av :: vs, u :: us, ?_, by unfold RepML; exact ⟨_, _, rfl, e3, h2⟩, h3⟩
      have ha : (asAddr (a.tmps.getD b undef)).run c.P w = .ok ad w := by rw [e1]; rfl
      simp only [List.mapM_cons, Sem.run_bind, Sem.run_pure, Result.andThen, ha, e2, h1]

theorem results_run (hT : TOk c.P c.T) {N : Nat} {s : St} {a : Act} (h : Rel c N F M s a w) (fn : Func) {K : List AV → Prop}
    (hN : (fn.results.toList.all fun r => match r with | .tmp t => Nat.blt t N | .cell a _ => Nat.blt a N) = true) (hK : resA c.T s fn.results.toList K) :
    ∃ vs v, (results fn a.tmps).run c.P w = .ok v w ∧ RepM w F M (resV vs) v ∧ K vs := by
  obtain ⟨vs, us, h1, h2, h3⟩ := resA_sound hT h _ K hN hK
  have hl := RepML.len _ _ h2
  have hmap : ∀ (x : Sem (List Value)), x.run c.P w = .ok us w → (List.toArray <$> x).run c.P w = .ok us.toArray w := by
    intro x hx; simp [hx]
  obtain ⟨g, hg, hgx⟩ : ∃ g : ResultVar → Sem Value, results fn a.tmps = (do let vs ← fn.results.mapM g; pure (if h : vs.size = 1 then vs[0] else .tuple vs)) ∧
      ∀ x, g x = (match x with
      | .tmp t => pure (a.tmps.getD t undef)
      | .cell b t => do loadVar t (← asAddr (a.tmps.getD b undef))) := ⟨_, rfl, fun x => by cases x <;> rfl⟩
  have hm : (fn.results.mapM g).run c.P w = .ok us.toArray w := by
    rw [Array.mapM_eq_mapM_toList]
    refine hmap _ ?_
    have : g = fun x => (match x with
      | .tmp t => pure (a.tmps.getD t undef)
      | .cell b t => do loadVar t (← asAddr (a.tmps.getD b undef))) := funext hgx
    rw [this]; exact h1
  refine ⟨vs, if h : us.toArray.size = 1 then us.toArray[0] else .tuple us.toArray, ?_, ?_, h3⟩
  · rw [hg, Sem.run_bind, hm]
    rfl
  · match vs, us, h2, hl with
    | [], us, h2, hl =>
      have : us = [] := List.eq_nil_of_length_eq_zero hl
      subst this
      unfold resV RepM
      exact ⟨[], rfl, by unfold RepML; rfl⟩
    | [v], us, h2, hl =>
      unfold RepML at h2
      obtain ⟨u, us', rfl, h4, h5⟩ := h2
      unfold RepML at h5
      subst h5
      exact h4
    | v :: v' :: vs, us, h2, hl =>
      have hne : us.toArray.size ≠ 1 := by simp at hl ⊢; omega
      rw [dif_neg hne]
      unfold resV RepM
      exact ⟨us, rfl, h2⟩

theorem tmOf_rep {N : Nat} : ∀ (args : List AV) (vals : List Value) (t : Nat), RepML w F M args vals → RepM w F M (tmOf args t) ((vals ++ List.replicate (N - vals.length) undef).getD t undef)
  | [], vals, t, h => by unfold tmOf RepM; trivial
  | a :: args, vals, t, h => by
      unfold RepML at h
      obtain ⟨v, vs', rfl, h1, h2⟩ := h
      cases t with
      | zero => simpa [tmOf] using h1
      | succ t =>
        have := tmOf_rep (N := N - 1) args vs' t h2
        have e : (v :: vs' ++ List.replicate (N - (v :: vs').length) undef).getD (t + 1) undef = (vs' ++ List.replicate (N - 1 - vs'.length) undef).getD t undef := by
          simp only [List.cons_append, List.getD_cons_succ, List.length_cons]
          congr 3; omega
        rw [e]
        exact this

theorem enter_rel {hp : Nat → Option Blk} {nx : Nat} (h : HR c F M hp nx w) {N : Nat} {args : List AV} {vals : List Value} (hv : RepML w F M args vals) (hN : args.length ≤ N) :
    Rel c N F M ⟨tmOf args, hp, nx⟩ { tmps := (⟨vals⟩ : Array Value) ++ Array.replicate (N - (⟨vals⟩ : Array Value).size) undef, defers := [] } w := by
  have hl := RepML.len _ _ hv
  refine ⟨h, fun t _ => ?_, DfOk.nil, by simp; omega⟩
  have := tmOf_rep (N := N) args vals t hv
  have e : ((⟨vals⟩ : Array Value) ++ Array.replicate (N - (⟨vals⟩ : Array Value).size) undef).getD t undef = (vals ++ List.replicate (N - vals.length) undef).getD t undef := by
    have e0 : (⟨vals⟩ : Array Value) ++ Array.replicate (N - (⟨vals⟩ : Array Value).size) undef = ⟨vals ++ List.replicate (N - vals.length) undef⟩ := by apply Array.ext'; simp
    rw [e0]
    simp [Array.getD_eq_getD_getElem?, List.getD_eq_getElem?_getD]
  rw [e]; exact this

/-- the marks among the deferred calls are shut -/
theorem leaves_marks {N : Nat} {fn : Func} {R : Ending → World → Prop} (hT : TOk c.P c.T) {s : St} {tmps : Array Value} {K : AV → Prop} (hsz : tmps.size = N)
    (hr : (fn.results.toList.all fun r => match r with | .tmp t => Nat.blt t N | .cell a _ => Nat.blt a N) = true) (hK : resA c.T s fn.results.toList fun vs => K (resV vs))
    {F0 : Foot} {M0 : Nat → Option MB} {w0 : World} (hw0 : ∀ b, F0 b → b < w0.heap.size) (hbs : c.base = some (F0, M0, w0))
    (hR : ∀ v av w', HR c F M s.hp s.nx w' → Tr F0 M0 w0 F M w' → RepM w' F M av v → K av → R (.returned v) w') :
    ∀ (Ds : List Nat) (w' : World), Ds.Nodup → (∀ D ∈ Ds, (Alien c F M D ∧ (∀ b, c.base = some b → b.2.2.heap.size ≤ D)) ∧ w'.heap[D]? = some (.deferred (some []))) → (∀ p ∈ c.al, p.1 < w0.heap.size) → HR c F M s.hp s.nx w' → Tr F0 M0 w0 F M w' → (∀ t, t < N → RepM w' F M (s.tm t) (tmps.getD t undef)) →
      LeavesInM Fence.wide 0 c.P fn tmps R (Ds.map mark) .returning w'
  | [], w', _, _, _, h, t, htm => by
      have hrel : Rel c N F M s { tmps := tmps, defers := [] } w' := ⟨h, htm, DfOk.nil, hsz⟩
      obtain ⟨vs, v, r1, r2, r3⟩ := results_run hT hrel fn hr hK
      exact ⟨v, r1, hR v _ w' h t r2 r3⟩
  | D :: Ds, w', hnd, hD, hal, h, t, htm => by
      obtain ⟨⟨h1, h2⟩, h4⟩ := hD D (by simp)
      have h0 : w0.heap.size ≤ D := h2 _ hbs
      have hlt : D < w'.heap.size := (Array.getElem?_eq_some_iff.1 h4).1
      have hnd' := List.nodup_cons.1 hnd
      refine ⟨by simp, .inl ⟨D, w'.putObj D (.deferred none), rfl, run_takeDeferred h4, ?_⟩⟩
      have hh : HR (c.wa c.al) F M s.hp s.nx (w'.putObj D (.deferred none)) := h.putAlien h1 hlt _ c.al (fun p hp => .inr ⟨by have := hal p hp; omega, hp⟩) h2
      refine leaves_marks hT hsz hr hK hw0 hbs hR Ds _ hnd'.2 (fun D' hD' => ?_) hal hh (t.alter h0 hw0) fun k hk => (htm k hk).putAlien h1.2.1
      obtain ⟨g1, g4⟩ := hD D' (by simp [hD'])
      exact ⟨g1, (World.putObj_heap_other (fun e => hnd'.1 (by rw [← e]; exact hD'))).trans g4⟩

abbrev Ctx.wb (c : Ctx) (b : Option (Foot × (Nat → Option MB) × World)) : Ctx := { c with base := b }
theorem HR.rebase {hp : Nat → Option Blk} {nx : Nat} (h : HR c F M hp nx w) (b : Option (Foot × (Nat → Option MB) × World)) (hb : BaseOk (c.wb b) F M w) : HR (c.wb b) F M hp nx w :=
  ⟨h.box, h.arr, h.own, h.inj, h.dom, h.fl, h.hist, h.gl, h.bel, h.ml, h.al, hb, h.res⟩
theorem HR.unbase {hp : Nat → Option Blk} {nx : Nat} {b : Option (Foot × (Nat → Option MB) × World)} (h : HR (c.wb b) F M hp nx w) (hb : BaseOk c F M w) : HR c F M hp nx w :=
  ⟨h.box, h.arr, h.own, h.inj, h.dom, h.fl, h.hist, h.gl, h.bel, h.ml, h.al, hb, h.res⟩

theorem body_calls {HD H : Tg → List AV → St → (AV → St → Prop) → Prop} {G : FuncId → List AV → St → (List AV → St → (St → Prop) → Prop) → (St → Prop) → Prop} (hT : TOk c.P c.T) (hM : HMakes HD) (hmo : c.P.follows .mixedOrders = true)
    (A : List (Nat × Obj) → Prop) (hA : A c.al)
    {hp : Nat → Option Blk} {nx : Nat} (h : HR c F M hp nx w) (hHD : ∀ al, A al → HSound ((c.wb (some (F, M, w))).wa al) HD) (hH : ∀ al, A al → HSound ((c.wb (some (F, M, w))).wa al) H)
    (hG : (∀ f cap s r K, ¬ G f cap s r K) ∨ ((∀ al, A al) ∧ ∀ al, GSound ((c.wb (some (F, M, w))).wa al) G))
    {f : FuncId} {fn : Func} {cd : Code} {args : List AV} {vals : List Value} {K : AV → St → Prop}
    (hf : c.P.funcs[f]? = some fn) (hb : fn.body = some cd) (hok : codeOk c.P fn.ntmps cd = true) (hN : Nat.ble args.length fn.ntmps = true)
    (hr : (fn.results.toList.all fun r => match r with | .tmp t => Nat.blt t fn.ntmps | .cell a _ => Nat.blt a fn.ntmps) = true) (hv : RepML w F M args vals)
    (hK : awC c.T c.gl HD H G cd ⟨tmOf args, hp, nx⟩ fun e s' => (e = .normal ∨ e = .ret) ∧ resA c.T s' fn.results.toList fun vs => K (resV vs) s') :
    Calls c.P f ⟨vals⟩ w fun e w' => ∃ v av s' F' M', e = .returned v ∧ HR c F' M' s'.hp s'.nx w' ∧ Tr F M w F' M' w' ∧ RepM w' F' M' av v ∧ K av s' := by
  have hbase : BaseOk (c.wb (some (F, M, w))) F M w := fun b hb => by cases hb; exact ⟨Tr.refl F M w, h.fl⟩
  have h' := h.rebase _ hbase
  refine (callsIn_wide (n := 0)).1 (callsIn_of_wp_marks hf hb trivial (wpIn_mono (awC_sound (c := c.wb (some (F, M, w))) hT hM hmo A hHD hH hG cd c.al none hA (.inl rfl) hok _ _ F M _ w hK (enter_rel h' hv (Nat.le_of_ble_eq_true hN))) fun e a' w' hq => ?_))
  obtain ⟨s', F', M', r, t, he, hres⟩ := hq
  have fin : LeavesInM Fence.wide 0 c.P fn a'.tmps (fun e w' => ∃ v av s' F' M', e = .returned v ∧ HR c F' M' s'.hp s'.nx w' ∧ Tr F M w F' M' w' ∧ RepM w' F' M' av v ∧ K av s') a'.defers .returning w' := by
    obtain ⟨Ds, d1, d2, d3⟩ := r.df
    rw [d1]
    refine leaves_marks (c := c.wb (some (F, M, w))) (K := fun v => K v s') hT r.sz hr hres h.fl rfl (fun v av w' g1 g2 g3 g4 => ⟨v, av, s', F', M', rfl, g1.unbase (h.base.tr g2), g2, g3, g4⟩) Ds w' d2 d3 (fun p hp => (Array.getElem?_eq_some_iff.1 (h.al p hp).2).1) r.toHR t r.tm
  rcases he with rfl | rfl
  · exact fin
  · exact fin

theorem callX_sound {c : Ctx} {H : Tg → List AV → St → (AV → St → Prop) → Prop} (hH : HSound c H) : HSound c (callX c.P c.gl H) := by
  intro f args s K F M w vals hK h hv
  unfold callX at hK
  cases hp : ptrs args with
  | false => rw [hp] at hK; exact callS_sound c f args s K F M w vals hK h hv
  | true =>
    rw [hp] at hK
    cases f with
    | yl l => exact hK.elim
    | fn f =>
      obtain ⟨r, hK, hrun⟩ := hK
      have hd := hH (.fn f) args ⟨s.tm, s.hp, s.nx⟩ _ F M w vals (hrun s.tm) h hv
      refine Does.mono hd fun e w' hh => ?_
      obtain ⟨v, av, s', F', M', h1, h2, h3, h4, h5, rfl, e1, e2, e3⟩ := hh
      have t := h4.cut (n := s.nx) fun k hk => (h.dom k hk).1
      refine ⟨v, av, s, F', cutM s.nx M', h1, rfl, (h3.cut e2 (h.base.tr t)).weaken fun k => ?_, t, h5.cut _ _ e1, hK⟩
      by_cases hk : k < s.nx
      · rcases e3 k hk with e | e
        · exact .inl e
        · right; rw [e]; unfold cutH; rw [blt_iff.2 hk]; rfl
      · exact .inl (h.dom k (by omega)).2

theorem HY_sound {H : Tg → List AV → St → (AV → St → Prop) → Prop} {l : Nat} {round : List AV → St → (St → Prop) → Prop} (hH : HSound c H) {F0 : Foot} {M0 : Nat → Option MB} {w0 : World} (hb : c.base = some (F0, M0, w0)) (hr : RoundOk c l F0 M0 w0 round) : HSound c (HY H l round) := by
  intro f args s K F M w vals hK h hv
  cases f with
  | fn f => exact hH (.fn f) args s K F M w vals hK h hv
  | yl l' =>
    obtain ⟨rfl, hK⟩ := hK
    obtain ⟨fn, tmps, assign, body, hy, hR⟩ := hr args vals s _ F M w hK h (h.base _ hb).1 hv
    refine ⟨fn, tmps, assign, body, hy, hR.mono fun e w' hh => ?_⟩
    obtain ⟨rfl, s', F', M', h1, h2, h3, h4⟩ := hh
    exact ⟨_, _, ⟨s.tm, s'.hp, s'.nx⟩, F', M', rfl, rfl, h2, h3, by unfold RepM; rfl, h4⟩

theorem RoundOk.wb {l : Nat} {round : List AV → St → (St → Prop) → Prop} (h : RoundOk c l F M w round) (hb : BaseOk c F M w) (hF : ∀ b, F b → b < w.heap.size) : RoundOk (c.wb (some (F, M, w))) l F M w round := by
  intro args vals s1 K1 F1 M1 w1 hr h1 t1 hv
  obtain ⟨fn, tmps, assign, body, hy, hR⟩ := h args vals s1 K1 F1 M1 w1 hr (h1.unbase (hb.tr t1)) t1 hv
  refine ⟨fn, tmps, assign, body, hy, hR.mono fun e w' hh => ?_⟩
  obtain ⟨rfl, s', F', M', h2, h3, h4, h5⟩ := hh
  exact ⟨rfl, s', F', M', h2, h3.rebase _ (fun b hb => by cases hb; exact ⟨t1.trans h4, hF⟩), h4, h5⟩

theorem Gn_sound {H : Tg → List AV → St → (AV → St → Prop) → Prop} (hT : TOk c.P c.T) (hmo : c.P.follows .mixedOrders = true) (hH : ∀ c' : Ctx, c'.P = c.P → c'.T = c.T → c'.gl = c.gl → HSound c' H) : GSound c (Gn c.P c.T c.gl H) := by
  intro f cap s round K F M w caps l hK h hv hround
  obtain ⟨fn, cd, hf, hb, he, hok, hN, hr, hK⟩ := hK
  refine ⟨he, Calls.mono (body_calls (K := fun v s' => K ⟨s.tm, s'.hp, s'.nx⟩) hT (callS_makes c.P c.gl) hmo (fun al => al = c.al) rfl h (fun al e => callS_sound _) (fun al e => ?_) (.inl fun _ _ _ _ _ h => h) hf hb hok hN hr (args := .yl l :: cap) ?_ (hK l)) fun e w' hh => ?_⟩
  · subst e
    exact HY_sound (c := c.wb (some (F, M, w))) (hH _ rfl rfl rfl) rfl (hround.wb h.base h.fl)
  · unfold RepML
    exact ⟨_, _, rfl, by unfold RepM; rfl, hv⟩
  · obtain ⟨v, av, s', F', M', h1, h2, h3, h4, h5⟩ := hh
    exact ⟨v, ⟨s.tm, s'.hp, s'.nx⟩, F', M', h1, h2, h3, h5⟩

theorem Hn_sound {c : Ctx} (hT : TOk c.P c.T) (hmo : c.P.follows .mixedOrders = true) : ∀ n (c' : Ctx), c'.P = c.P → c'.T = c.T → c'.gl = c.gl → HSound c' (Hn c.P c.T c.gl n)
  | 0, c', e1, e2, e3 => by rw [← e1, ← e2, ← e3]; exact callW_sound c'
  | n + 1, c', e1, e2, e3 => by
      intro f args s K F M w vals hK h hv
      rcases hK with hK | hK
      · have := callW_sound c' f args s K F M w vals (by rw [e1, e3]; exact hK) h hv
        exact this
      · cases f with
        | yl l => exact hK.elim
        | fn f =>
          have main : ∀ (K' : AV → St → Prop), (∃ fn cd, c.P.funcs[f]? = some fn ∧ fn.body = some cd ∧ enters c.P f = true ∧ codeOk c.P fn.ntmps cd = true ∧ Nat.ble args.length fn.ntmps = true ∧
              (fn.results.toList.all fun r => match r with | .tmp t => Nat.blt t fn.ntmps | .cell a _ => Nat.blt a fn.ntmps) = true ∧
              awC c.T c.gl (callX c.P c.gl (Hn c.P c.T c.gl n)) (Hn c.P c.T c.gl n) (Gn c.P c.T c.gl (Hn c.P c.T c.gl n)) cd ⟨tmOf args, s.hp, s.nx⟩ fun e s' => (e = .normal ∨ e = .ret) ∧ resA c.T s' fn.results.toList fun vs => K' (resV vs) s') →
              enters c'.P f = true ∧ Calls c'.P f ⟨vals⟩ w fun e w' => ∃ v av s' F' M', e = .returned v ∧ HR c' F' M' s'.hp s'.nx w' ∧ Tr F M w F' M' w' ∧ RepM w' F' M' av v ∧ K' av s' := by
            intro K' hK
            obtain ⟨fn, cd, hf, hb, he, hok, hN, hr, hK⟩ := hK
            rw [← e1] at hf he hok hK
            rw [← e2, ← e3] at hK
            have hs := fun c'' (g1 : c''.P = c'.P) (g2 : c''.T = c'.T) (g3 : c''.gl = c'.gl) => Hn_sound hT hmo n c'' (g1.trans e1) (g2.trans e2) (g3.trans e3)
            rw [← e1, ← e2, ← e3] at hs
            exact ⟨he, body_calls (c := c') (by rw [e1, e2]; exact hT) (callX_makes c'.P c'.gl _) (by rw [e1]; exact hmo) (fun _ => True) trivial h (fun al _ => callX_sound (hs _ rfl rfl rfl)) (fun al _ => hs _ rfl rfl rfl)
              (.inr ⟨fun _ => trivial, fun al => Gn_sound (c := (c'.wb (some (F, M, w))).wa al) (by rw [show ((c'.wb (some (F, M, w))).wa al).P = c.P from e1, show ((c'.wb (some (F, M, w))).wa al).T = c.T from e2]; exact hT) (by rw [show ((c'.wb (some (F, M, w))).wa al).P = c.P from e1]; exact hmo) (fun c'' g1 g2 g3 => hs c'' g1 g2 g3)⟩)
              hf hb hok hN hr hv (K := K') hK⟩
          rcases hK with hK | hK
          · obtain ⟨he, hc⟩ := main (fun v s' => K v ⟨s.tm, s'.hp, s'.nx⟩) hK
            refine .inl ⟨he, Calls.mono hc fun e w' hh => ?_⟩
            obtain ⟨v, av, s', F', M', h1, h2, h3, h4, h5⟩ := hh
            exact ⟨v, av, ⟨s.tm, s'.hp, s'.nx⟩, F', M', h1, rfl, h2, h3, h4, h5⟩
          · obtain ⟨he, hc⟩ := main (fun v s' => bl s.nx v = true ∧ clean s.nx s'.hp s.nx ∧ K v ⟨s.tm, cutH s.nx s'.hp, s.nx⟩) hK
            refine .inl ⟨he, Calls.mono hc fun e w' hh => ?_⟩
            obtain ⟨v, av, s', F', M', h1, h2, h3, h4, h5, h6, h7⟩ := hh
            have t := h3.cut (n := s.nx) fun k hk => (h.dom k hk).1
            exact ⟨v, av, ⟨s.tm, cutH s.nx s'.hp, s.nx⟩, F', cutM s.nx M', h1, rfl, h2.cut h6 (h.base.tr t), t, h4.cut _ _ h5, h7⟩

end

/-- a contract: from an abstract run on data -/
theorem spec_of {P : Program} {T : List (Nat × TyI)} {gl : List (Nat × AV)} (hT : TOk P T) (hmo : P.follows .mixedOrders = true) (n : Nat) {f : FuncId} {fn : Func} {cd : Code} {ds : List AV} {r : AV}
    (hf : P.funcs[f]? = some fn) (hb : fn.body = some cd) (he : enters P f = true) (hok : codeOk P fn.ntmps cd = true) (hN : Nat.ble ds.length fn.ntmps = true)
    (hr : (fn.results.toList.all fun r => match r with | .tmp t => Nat.blt t fn.ntmps | .cell a _ => Nat.blt a fn.ntmps) = true)
    (hK : awC T gl (callX P gl (Hn P T gl n)) (Hn P T gl n) (Gn P T gl (Hn P T gl n)) cd ⟨tmOf ds, fun _ => none, 0⟩ fun e s' => (e = .normal ∨ e = .ret) ∧ resA T s' fn.results.toList fun vs => toWR s'.hp (resV vs) fun d => d = r) : Spec P gl f ds r := by
  intro w F vals hF hg hv
  refine .inl ⟨he, ?_⟩
  let c : Ctx := { P := P, T := T, gl := gl, w0 := w, F0 := F }
  have h : HR c F (fun _ => none) (fun _ => none) 0 w := ⟨(fun _ _ h => by cases h), (fun _ _ _ _ h => by cases h), (fun _ _ _ h => by cases h), fun _ _ _ _ h => absurd rfl h, fun _ _ => ⟨rfl, rfl⟩, hF, fun b h => .inl h, hg, Below.refl _ _, fun _ _ h => (by cases h), fun _ h => (by cases h), fun _ h => (by cases h), fun _ h => (by cases h)⟩
  refine Calls.mono (body_calls (c := c) (K := fun v s' => toWR s'.hp v fun d => d = r) hT (callX_makes P gl _) hmo (fun _ => True) trivial h (fun al _ => callX_sound (Hn_sound (c := c) hT hmo n _ rfl rfl rfl)) (fun al _ => Hn_sound (c := c) hT hmo n _ rfl rfl rfl)
    (.inr ⟨fun _ => trivial, fun al => Gn_sound (c := (c.wb _).wa al) hT hmo fun c'' g1 g2 g3 => Hn_sound (c := c) hT hmo n c'' g1 g2 g3⟩) hf hb hok hN hr (RepML.of_D _ _ hv) hK) fun e w' hh => ?_
  obtain ⟨v, av, s', F', M', rfl, h2, h3, h4, h5⟩ := hh
  obtain ⟨d, k1, rfl⟩ := toWR_sound h2 h4 h5
  obtain ⟨f1, f2⟩ := h2.freezeW (keysWR s'.hp av)
  refine ⟨v, rfl, RepD.mono (fun b hb => ?_) (fun _ _ => rfl) _ _ k1, h2.bel⟩
  rcases f1.hist b hb with h6 | h6
  · exact .inl h6
  · exact .inr ⟨h6, f1.fl b hb⟩

theorem tok_of {P : Program} {T : List (Nat × TyI)} (h : T.map (fun p => tyOf P p.1) = T.map (fun p => some p.2)) : TOk P T := by
  intro t i ht
  induction T with
  | nil => cases ht
  | cons p T ih =>
    obtain ⟨j, v⟩ := p
    simp only [List.map_cons, List.cons.injEq] at h
    unfold look at ht
    cases hb : Nat.beq t j with
    | true =>
      rw [hb] at ht
      simp only [cond_true, Option.some.injEq] at ht
      have := Nat.eq_of_beq_eq_true hb
      subst this
      rw [h.1, ht]
    | false =>
      rw [hb] at ht
      exact ih h.2 ht
end Ab
