import Derived.Test.YtbcgkonhkoopnaaGreatXSound2
/-!
Soundness of code: the statements.
-/
namespace Ab
open Go Go.RowKit
variable {c : Ctx} {N : Nat} {H : Tg → List AV → St → (AV → St → Prop) → Prop} {G : FuncId → List AV → St → (List AV → St → (St → Prop) → Prop) → (St → Prop) → Prop}

theorem putL_rep {w : World} {F : Foot} {M : Nat → Option MB} : ∀ (ps : List Tmp) (vs : List AV) (us : List Value) (tm : Nat → AV) (tmps : Array Value), RepML w F M vs us → (∀ p ∈ ps, p < tmps.size) →
    (∀ t, t < tmps.size → RepM w F M (tm t) (tmps.getD t undef)) →
    ((ps.zip us).foldl (fun t (p, v) => t.setIfInBounds p v) tmps).size = tmps.size ∧ ∀ t, t < tmps.size → RepM w F M (putL ps vs tm t) (((ps.zip us).foldl (fun t (p, v) => t.setIfInBounds p v) tmps).getD t undef)
  | [], vs, us, tm, tmps, _, _, h => by simpa [putL] using h
  | p :: ps, [], us, tm, tmps, hv, _, h => by
      unfold RepML at hv; subst hv
      simpa [putL] using h
  | p :: ps, v :: vs, us, tm, tmps, hv, hp, h => by
      unfold RepML at hv
      obtain ⟨u, us', rfl, h1, h2⟩ := hv
      have hps : p < tmps.size := hp p (by simp)
      have := putL_rep ps vs us' (fun k => bif Nat.beq k p then v else tm k) (tmps.setIfInBounds p u) h2 (fun q hq => by simpa using hp q (by simp [hq])) (fun t ht => by
        simp only [Array.size_setIfInBounds] at ht
        by_cases e : t = p
        · subst e
          simp [hps, h1]
        · rw [beq_ne e]
          have e' : p ≠ t := fun h => e h.symm
          simp only [cond_false, Array.getD_eq_getD_getElem?, Array.getElem?_setIfInBounds_ne e']
          simpa using h t ht)
      simpa [putL] using this

/-- a block that is not the call's own turns, and turns back -/
theorem Tr.sandwich {F2 F3 : Foot} {M2 M3 : Nat → Option MB} {w2 w3 : World} {l : Nat} {o1 o2 : Obj} (t : Tr F2 M2 (w2.putObj l o1) F3 M3 w3) (h2 : w2.heap[l]? = some o2) (hF : ¬ F2 l) (hM : ∀ k m, M2 k = some m → m.b ≠ l) :
    Tr F2 M2 w2 F3 M3 (w3.putObj l o2) := by
  have hlt : l < w2.heap.size := (Array.getElem?_eq_some_iff.1 h2).1
  have hsz : w2.heap.size ≤ w3.heap.size := by have := t.size; rwa [World.putObj_size] at this
  refine ⟨t.foot, fun b hb => ?_, t.map, by rw [World.putObj_size]; exact hsz, fun b hb => by have := t.fnew b hb; rwa [World.putObj_size] at this, fun k m hk => by have := t.mnew k m hk; rwa [World.putObj_size] at this, fun b hb hn => ?_⟩
  · have e : b ≠ l := fun e => hF (e ▸ hb)
    exact (World.putObj_heap_other e).trans ((t.cell b hb).trans (World.putObj_heap_other e))
  · by_cases e : b = l
    · subst e
      rw [h2]; exact World.putObj_heap_same (by omega)
    · exact (World.putObj_heap_other e).trans ((t.rest b (by rw [World.putObj_size]; exact hb) hn).trans (World.putObj_heap_other e))

theorem RepM.putAlien {w : World} {F : Foot} {M : Nat → Option MB} {l : Nat} {o : Obj} (hF : ¬ F l) {av : AV} {v : Value} (h : RepM w F M av v) : RepM (w.putObj l o) F M av v :=
  RepM.mono (fun _ h => h) (fun b hb => World.putObj_heap_other fun e => by subst e; exact hF hb) (fun _ _ h => h) _ _ h

theorem DfOk.putAlien {F : Foot} {M : Nat → Option MB} {ds : List Deferred} {w : World} {l : Nat} {o : Obj} (h : DfOk c F M ds w) (hl : ∀ D, w.heap[D]? = some (.deferred (some [])) → D ≠ l) (al : List (Nat × Obj)) : DfOk (c.wa al) F M ds (w.putObj l o) := by
  obtain ⟨Ds, h1, h2, h3⟩ := h
  exact ⟨Ds, h1, h2, fun D hD => ⟨(h3 D hD).1, (World.putObj_heap_other (hl D (h3 D hD).2)).trans (h3 D hD).2⟩⟩

theorem flagsAt_eq (n : Nat) (ops : Array Oper) (o : Oper) : flagsAt n ops o = ⟨(flags ops o).hs, (flags ops o).lim, (flags ops o).chk, (flags ops o).ky.map (Nat.add n), (flags ops o).old⟩ := by
  unfold flagsAt
  cases flags ops o with
  | mk hs lim chk ky old => cases ky <;> rfl
theorem indep_at (n : Nat) (ops : Array Oper) (x y : Oper) : indep (flagsAt n ops) ops x y = indep (flags ops) ops x y := by
  unfold indep indep0 calm
  simp only [flagsAt_eq]
  cases (flags ops x).ky with
  | none => cases (flags ops y).ky <;> rfl
  | some a =>
    cases (flags ops y).ky with
    | none => rfl
    | some b =>
      simp only [Option.map_some]
      congr 1
      have : Nat.beq (Nat.add n a) (Nat.add n b) = Nat.beq a b := by
        by_cases e : a = b
        · subst e; rw [show Nat.beq a a = true from Nat.beq_refl a]; exact Nat.beq_refl _
        · rw [beq_ne e]; exact beq_ne fun h => e (Nat.add_left_cancel h)
      rw [this]
theorem pairsOk_at (n : Nat) (ops : Array Oper) (masks : List Nat) : ∀ l, pairsOk (flagsAt n ops) ops masks l = pairsOk (flags ops) ops masks l
  | [] => rfl
  | (i, m, o) :: l => by
      simp only [pairsOk, indep_at, pairsOk_at n ops masks l]
theorem flagsAt_old {n : Nat} {ops : Array Oper} (o : Oper) (h : (flagsAt n ops o).old = true) : turnsOp o.op = true := by
  rw [flagsAt_eq] at h
  simp only [flags] at h
  cases hc : isCall o.op with
  | false => rw [hc] at h; cases h
  | true =>
    obtain ⟨dst, op, type, pos, after, guard⟩ := o
    unfold isCall at hc
    simp only at hc ⊢
    split at hc
    · rfl
    · cases hc
theorem flagsAt_key {gl : List (Nat × AV)} {ops : Array Oper} {s : St} (o : Oper) (k : Nat) (h : (flagsAt s.nx ops o).ky = some k) : sees gl ops s k = false := by
  rw [flagsAt_eq] at h
  simp only at h
  cases hk : (flags ops o).ky with
  | none => rw [hk] at h; cases h
  | some r =>
    rw [hk] at h
    simp only [Option.map_some, Option.some.injEq] at h
    have hb : Nat.blt k s.nx = false := by
      cases hb : Nat.blt k s.nx with
      | false => rfl
      | true =>
        have := Nat.le_of_ble_eq_true hb
        have h : s.nx + r = k := h
        omega
    unfold sees
    rw [hb]; rfl
theorem Rel.kept {N : Nat} {F : Foot} {M : Nat → Option MB} {a : Act} {w : World} : ∀ (n : Nat) {s : St}, Rel c N F M s a w → Rel c N F M (Ab.kept n s) a w
  | 0, s, h => h
  | n + 1, s, h => by
      unfold Ab.kept
      exact Rel.kept n ⟨h.toHR.keep1, h.tm, h.df, h.sz⟩

theorem awC_sound {HD : Tg → List AV → St → (AV → St → Prop) → Prop} (hT : TOk c.P c.T) (hM : HMakes HD) (hmo : c.P.follows .mixedOrders = true) (A : List (Nat × Obj) → Prop) (hHD : ∀ al, A al → HSound (c.wa al) HD) (hH : ∀ al, A al → HSound (c.wa al) H)
    (hG : (∀ f cap s r K, ¬ G f cap s r K) ∨ ((∀ al, A al) ∧ ∀ al, GSound (c.wa al) G)) :
    ∀ (cd : Code) (al : List (Nat × Obj)) (ro : Option Nat), A al → (ro = none ∨ noRange cd = true) → codeOk c.P N cd = true → ∀ (s : St) (QA : Exit → St → Prop) (F : Foot) (M : Nat → Option MB) (a : Act) (w : World),
    awC c.T c.gl HD H G cd s QA → Rel (c.wa al) N F M s a w → cd.wpIn (Fw ro) 0 c.P (CPost (c.wa al) N F M w QA) a w
  | .skip, al, ro, hA, hro, _, s, QA, F, M, a, w, hK, h => wpIn_skip ⟨s, F, M, h, Tr.refl F M w, hK⟩
  | .exit id, al, ro, hA, hro, _, s, QA, F, M, a, w, hK, h => wpIn_exit ⟨s, F, M, h, Tr.refl F M w, hK⟩
  | .ret, al, ro, hA, hro, _, s, QA, F, M, a, w, hK, h => wpIn_ret ⟨s, F, M, h, Tr.refl F M w, hK⟩
  | .region id ops false, al, ro, hA, hro, hok, s, QA, F, M, a, w, hK, h => by
      refine wpIn_region ?_
      rw [List.range_eq_range']
      refine aOps_sound (c := c.wa al) (K := QA .normal) hT (hHD al hA) (hH al hA) hok (fun s' F' M' a' w' r t k => ⟨s', F', M', r, t, k⟩) ops.size 0 s F M a w (by omega) (by simpa [awC] using hK) h (Tr.refl F M w)
  | .region id ops true, al, ro, hA, hro, hok, s, QA, F, M, a, w, hK, h => by
      unfold awC at hK
      obtain ⟨hd, hK⟩ := hK
      refine wpIn_region_any hmo ?_
      obtain ⟨hr', ht'⟩ := h.toHR.keep (w' := { w with drawn := w.drawn + 1 }) (fun _ _ => rfl) (fun _ h => h) (fun _ h => .inl h) h.fl (h.bel.trans ⟨rfl, rfl, rfl, Nat.le_refl _, fun _ _ => rfl⟩)
      have hr : Rel (c.wa al) N F M s a { w with drawn := w.drawn + 1 } := ⟨hr', fun t ht => (h.tm t ht).tr ht', h.df.tr ht', h.sz⟩
      have hfil : ((numbered ops.toList (aheadOf ops.toList) 0).filter fun p => !(Array.replicate ops.size false).getD p.1 true) = numbered ops.toList (aheadOf ops.toList) 0 := by
        refine List.filter_eq_self.2 fun p hp => ?_
        obtain ⟨i, m, o⟩ := p
        obtain ⟨_, h2, _⟩ := mem_numbered hp
        have hlt : i < ops.size := by
          have : ops[i]? = some o := by simpa using h2
          exact (Array.getElem?_eq_some_iff.1 this).1
        simp [hlt]
      refine any_sound (c := c.wa al) (p := sees c.gl ops s) (K := QA .normal) (masks := aheadOf ops.toList) hT (hHD al hA) hM (hH al hA) (fl := flagsAt s.nx ops) (fun o h => flagsAt_old o h) (fun o k h => flagsAt_key o k h) (aheadOf_length _) hok (pairsOk_good (by rw [pairsOk_at]; exact hd)) (fun s' F' M' a' w' r t k => ⟨s', F', M', r, t, k⟩) ops.size (Array.replicate ops.size false) (Ab.kept (keptN ops) s) F M a _ (by simp) ?_ ?_ ?_ (hr.kept _) ht'
      · intro j k m hj
        exfalso
        simp only [Array.getD_eq_getD_getElem?, Array.getElem?_replicate] at hj
        split at hj <;> simp at hj
      · rw [hfil]
        have := congrArg List.length (numbered_map (l := ops.toList) (ms := aheadOf ops.toList) (i := 0) (aheadOf_length _))
        simp at this ⊢
        omega
      · rw [hfil, numbered_map (aheadOf_length _)]
        exact hK
  | .seq x y, al, ro, hA, hro, hok, s, QA, F, M, a, w, hK, h => by
      unfold codeOk at hok
      simp only [Bool.and_eq_true] at hok
      unfold awC at hK
      refine wpIn_seq (wpIn_mono (awC_sound hT hM hmo A hHD hH hG x al ro hA (hro.imp (fun h => h) fun h => by simp only [noRange, Bool.and_eq_true] at h; exact h.1) hok.1 s _ F M a w hK h) fun e a' w' hq => ?_)
      obtain ⟨s', F', M', r, t, k⟩ := hq
      cases e with
      | normal =>
        refine wpIn_mono (awC_sound hT hM hmo A hHD hH hG y al ro hA (hro.imp (fun h => h) fun h => by simp only [noRange, Bool.and_eq_true] at h; exact h.2) hok.2 s' QA F' M' a' w' k r) fun e' a'' w'' hq' => ?_
        obtain ⟨s'', F'', M'', r', t', k'⟩ := hq'
        exact ⟨s'', F'', M'', r', t.trans t', k'⟩
      | _ => exact ⟨s', F', M', r, t, k⟩
  | .cond x y z, al, ro, hA, hro, hok, s, QA, F, M, a, w, hK, h => by
      unfold codeOk at hok
      simp only [Bool.and_eq_true] at hok
      unfold awC at hK
      have hx := h.ev x (opndOk_lt hok.1)
      generalize ev c.gl s x = ax at hx hK
      cases ax with
      | bool b =>
        unfold RepM at hx
        refine wpIn_cond hx ?_
        cases b with
        | true => exact awC_sound hT hM hmo A hHD hH hG y al ro hA (hro.imp (fun h => h) fun h => by simp only [noRange, Bool.and_eq_true] at h; exact h.1) hok.2.1 s QA F M a w (hK.1 rfl) h
        | false => exact awC_sound hT hM hmo A hHD hH hG z al ro hA (hro.imp (fun h => h) fun h => by simp only [noRange, Bool.and_eq_true] at h; exact h.2) hok.2.2 s QA F M a w (hK.2 rfl) h
      | _ => exact hK.elim
  | .block id x, al, ro, hA, hro, hok, s, QA, F, M, a, w, hK, h => by
      unfold codeOk at hok
      unfold awC at hK
      refine wpIn_block (wpIn_mono (awC_sound hT hM hmo A hHD hH hG x al ro hA (hro.imp (fun h => h) fun h => by simpa only [noRange] using h) hok s _ F M a w hK h) fun e a' w' hq => ?_)
      obtain ⟨s', F', M', r, t, k⟩ := hq
      cases e with
      | exit i =>
        simp only at k
        simp only [Exit.inBlock]
        by_cases e : i = id
        · subst e
          rw [if_pos rfl]
          rw [show Nat.beq i i = true from Nat.beq_refl i] at k
          exact ⟨s', F', M', r, t, k⟩
        · rw [if_neg e]
          rw [beq_ne e] at k
          exact ⟨s', F', M', r, t, k⟩
      | _ => exact ⟨s', F', M', r, t, k⟩
  | .loop x, al, ro, hA, hro, hok, s, QA, F, M, a, w, hK, h => by
      unfold codeOk at hok
      unfold awC at hK
      obtain ⟨I, μ, ⟨s0, hl, hI⟩, hround⟩ := hK
      refine wp_loop' (fun n a' w' => ∃ s' F' M', Rel (c.wa al) N F' M' s' a' w' ∧ Tr F M w F' M' w' ∧ I s' ∧ μ s' = n) ?_ ⟨s0, F, M, h.of_le hl, Tr.refl F M w, hI, rfl⟩
      rintro n a' w' ⟨s', F', M', r, t, hI', rfl⟩
      refine wpIn_mono (awC_sound hT hM hmo A hHD hH hG x al ro hA (hro.imp (fun h => h) fun h => by simpa only [noRange] using h) hok s' _ F' M' a' w' (hround s' hI') r) fun e a'' w'' hq => ?_
      obtain ⟨s'', F'', M'', r', t', k⟩ := hq
      cases e with
      | normal =>
        obtain ⟨s1, hl1, hI1, hm⟩ := k
        exact ⟨_, hm, s1, F'', M'', r'.of_le hl1, t.trans t', hI1, rfl⟩
      | _ => exact ⟨s'', F'', M'', r', t.trans t', k⟩
  | .rangeFunc g ps assign body, al, ro, hA, hro, hok, s, QA, F, M, a, w, hK, h => by
      have hro' : ro = none := hro.resolve_right (by simp [noRange])
      subst hro'
      simp only [codeOk, Bool.and_eq_true] at hok
      obtain ⟨⟨hg0, hps⟩, ⟨hoa, hna⟩, hob, hnb⟩ := hok
      unfold awC at hK
      have hx := h.ev g (opndOk_lt hg0)
      generalize hga : ev c.gl s g = ag at hK
      rw [show ev (c.wa al).gl s g = ag from hga] at hx
      cases ag with
      | fn f cap =>
        simp only at hK
        have hG' := hG.resolve_left fun hn => hn _ _ _ _ _ hK
        have hbl : ∀ b, c.base = some b → b.2.2.heap.size ≤ w.heap.size + 1 := fun b hb => Nat.le_succ_of_le (h.base b hb).1.size
        unfold RepM at hx
        obtain ⟨caps, hgv, hcap⟩ := hx
        refine wpIn_rangeFunc ?_
        intro fn hfn
        obtain ⟨rec, hrec⟩ : ∃ rec : LoopState → Loop, rec = fun st => { state := st, pending := none, fn, tmps := a.tmps, params := ps, assign, body, defers := w.heap.size } := ⟨_, rfl⟩
        obtain ⟨W1, hW1⟩ : ∃ W1, (w.alloc (.deferred (some []))).alloc (.loop (rec .ready)) = W1 := ⟨_, rfl⟩
        have hsz1 : W1.heap.size = w.heap.size + 2 := by rw [← hW1]; simp
        have hL1 : W1.heap[w.heap.size + 1]? = some (.loop (rec .ready)) := by
          rw [← hW1]; have := World.alloc_heap_new (w.alloc (.deferred (some []))) (.loop (rec .ready)); rwa [World.size_alloc] at this
        have hD1 : W1.heap[w.heap.size]? = some (.deferred (some [])) := by
          rw [← hW1]; exact (Below.heap_alloc _ _ _ (by simp)).trans (World.alloc_heap_new w _)
        have hold : ∀ b, b < w.heap.size → W1.heap[b]? = w.heap[b]? := fun b hb => by
          rw [← hW1]; exact (Below.heap_alloc _ _ _ (by simp; omega)).trans (Below.heap_alloc _ _ _ hb)
        have hB1 : Below c.w0.heap.size c.w0 W1 := by
          rw [← hW1]
          have h1 := h.bel.alloc h.bel.size (.deferred (some []))
          exact h1.alloc h1.size _
        obtain ⟨k1, k2⟩ := h.toHR.keep (w' := W1) (F' := F) hold (fun _ h => h) (fun _ h => .inl h) (fun b hb => by have := h.fl b hb; omega) hB1
        have hbs : c.w0.heap.size ≤ w.heap.size := h.bel.size
        have aD : Alien c F M w.heap.size := ⟨hbs, fun hf => by have := h.fl _ hf; omega, fun k m hk e => by have := h.ml k m hk; omega⟩
        have aL : Alien c F M (w.heap.size + 1) := ⟨by omega, fun hf => by have := h.fl _ hf; omega, fun k m hk e => by have := h.ml k m hk; omega⟩
        obtain ⟨alR, halR⟩ : ∃ alR : List (Nat × Obj), alR = (w.heap.size + 1, .loop (rec .ready)) :: (w.heap.size, .deferred (some [])) :: al := ⟨_, rfl⟩
        obtain ⟨alB, halB⟩ : ∃ alB : List (Nat × Obj), alB = (w.heap.size + 1, .loop (rec .busy)) :: (w.heap.size, .deferred (some [])) :: al := ⟨_, rfl⟩
        have hne : ∀ p ∈ al, p.1 < w.heap.size := fun p hp => (Array.getElem?_eq_some_iff.1 (h.al p hp).2).1
        have k3 : HR (c.wa alR) F M s.hp s.nx W1 := k1.other alR (fun _ _ => rfl) (Nat.le_refl _) hB1 (by
          rw [halR]
          intro p hp
          rcases List.mem_cons.1 hp with e | hp
          · subst e; exact ⟨aL, hL1⟩
          · rcases List.mem_cons.1 hp with e | hp
            · subst e; exact ⟨aD, hD1⟩
            · exact ⟨(h.al p hp).1, (hold _ (hne p hp)).trans (h.al p hp).2⟩) k1.base
        have hmR : (w.heap.size + 1, Obj.loop (rec .ready)) ∈ alR := by rw [halR]; simp
        have hmB : (w.heap.size + 1, Obj.loop (rec .busy)) ∈ alB := by rw [halB]; simp
        have hmD : (w.heap.size, Obj.deferred (some [])) ∈ alR := by rw [halR]; simp
        have toB : ∀ p ∈ alB, p = (w.heap.size + 1, Obj.loop (rec .busy)) ∨ (p.1 ≠ w.heap.size + 1 ∧ p ∈ alR) := by
          rw [halB, halR]
          intro p hp
          rcases List.mem_cons.1 hp with e | hp
          · exact .inl e
          · rcases List.mem_cons.1 hp with e | hp
            · subst e; exact .inr ⟨by simp, by simp⟩
            · exact .inr ⟨by have := hne p hp; omega, by simp [hp]⟩
        have toR : ∀ p ∈ alR, p = (w.heap.size + 1, Obj.loop (rec .ready)) ∨ (p.1 ≠ w.heap.size + 1 ∧ p ∈ alB) := by
          rw [halB, halR]
          intro p hp
          rcases List.mem_cons.1 hp with e | hp
          · exact .inl e
          · rcases List.mem_cons.1 hp with e | hp
            · subst e; exact .inr ⟨by simp, by simp⟩
            · exact .inr ⟨by have := hne p hp; omega, by simp [hp]⟩
        have toA : ∀ p ∈ al, p = (w.heap.size + 1, Obj.loop (rec .exhausted)) ∨ (p.1 ≠ w.heap.size + 1 ∧ p ∈ alR) := by
          rw [halR]
          intro p hp
          exact .inr ⟨by have := hne p hp; omega, by simp [hp]⟩
        have hround : RoundOk (c.wa alR) (w.heap.size + 1) F M W1 (fun args st K => match Nat.beq (lenL args) (ps.toList.length) with
          | true => awC c.T c.gl HD H G assign ⟨putL ps.toList args s.tm, st.hp, st.nx⟩ fun e s1 => match e with
            | .normal => awC c.T c.gl HD H G body s1 fun e s2 => match e with
              | .normal => K ⟨st.tm, s2.hp, s2.nx⟩
              | _ => False
            | _ => False
          | false => False) := by
          intro args vals s1 K1 F1 M1 w1 hr1 h1 t1 hv1
          simp only at hr1
          cases hbq : Nat.beq (lenL args) ps.toList.length with
          | false => rw [hbq] at hr1; exact hr1.elim
          | true =>
            rw [hbq] at hr1
            simp only at hr1
            have hlen := Nat.eq_of_beq_eq_true hbq
            rw [lenL_eq] at hlen
            obtain ⟨al1, hl1⟩ := h1.al _ hmR
            have hlt1 : w.heap.size + 1 < w1.heap.size := (Array.getElem?_eq_some_iff.1 hl1).1
            have hvl := RepML.len _ _ hv1
            have hy := run_yield (P := c.P) (args := (⟨vals⟩ : Array Value)) hl1 (by rw [hrec]; simp at hlen ⊢; omega)
            rw [hrec] at hy
            refine ⟨fn, _, assign, body, hy, roundIn_of_wpIn hfn ?_⟩
            have htm : ∀ t, t < a.tmps.size → RepM w1 F1 M1 (s.tm t) (a.tmps.getD t undef) := fun t ht => (h.tm t (by rw [← h.sz]; exact ht)).tr (k2.trans t1)
            have hpl := putL_rep ps.toList args vals s.tm a.tmps hv1 (fun p hp => by rw [h.sz]; exact Nat.le_of_ble_eq_true (List.all_eq_true.1 hps p hp)) htm
            have hzip : (ps.zip (⟨vals⟩ : Array Value)).foldl (fun t (p, v) => t.setIfInBounds p v) a.tmps = (ps.toList.zip vals).foldl (fun t (p, v) => t.setIfInBounds p v) a.tmps := by
              rw [← Array.foldl_toList]; simp
            rw [hzip]
            have hrel : Rel (c.wa alR) N F1 M1 ⟨putL ps.toList args s.tm, s1.hp, s1.nx⟩ { tmps := (ps.toList.zip vals).foldl (fun t (p, v) => t.setIfInBounds p v) a.tmps, defers := [] } w1 :=
              ⟨h1, fun t ht => hpl.2 t (by rw [h.sz]; exact ht), DfOk.nil, hpl.1.trans h.sz⟩
            refine wpIn_mono (awC_sound hT hM hmo A hHD hH (.inr hG') assign alR (some (w.heap.size + 1)) (hG'.1 _) (.inr hna) hoa _ _ F1 M1 _ w1 hr1 hrel) fun e a2 w2 hq => ?_
            obtain ⟨s2, F2, M2, r2, t2, hq⟩ := hq
            cases e with
            | normal =>
              obtain ⟨al2, hl2⟩ := r2.al _ hmR
              have hlt2 : w.heap.size + 1 < w2.heap.size := (Array.getElem?_eq_some_iff.1 hl2).1
              have hbr := run_beginRound (P := c.P) hl2 (by rw [hrec])
              have hbusy : ({ rec .ready with state := .busy } : Loop) = rec .busy := by rw [hrec]
              rw [hbusy] at hbr
              refine ⟨_, hbr, ?_⟩
              have r2b : HR (c.wa alB) F2 M2 s2.hp s2.nx (w2.putObj (w.heap.size + 1) (.loop (rec .busy))) := r2.toHR.putAlien al2 hlt2 _ alB toB hbl
              have rel2 : Rel (c.wa alB) N F2 M2 s2 a2 (w2.putObj (w.heap.size + 1) (.loop (rec .busy))) :=
                ⟨r2b, fun t ht => (r2.tm t ht).putAlien al2.2.1, r2.df.putAlien (fun D hD e => by rw [e, hl2] at hD; cases hD) alB, r2.sz⟩
              refine wpIn_mono (awC_sound hT hM hmo A hHD hH (.inr hG') body alB (some (w.heap.size + 1)) (hG'.1 _) (.inr hnb) hob _ _ F2 M2 _ _ hq rel2) fun e a3 w3 hq3 => ?_
              obtain ⟨s3, F3, M3, r3, t3, hq3⟩ := hq3
              cases e with
              | normal =>
                obtain ⟨al3, hl3⟩ := r3.al _ hmB
                have hlt3 : w.heap.size + 1 < w3.heap.size := (Array.getElem?_eq_some_iff.1 hl3).1
                have hen := run_endRound (P := c.P) none hl3
                have hrd : ({ rec .busy with state := if (none : Option Code).isNone then .ready else .done, pending := none } : Loop) = rec .ready := by rw [hrec]; rfl
                rw [hrd] at hen
                exact ⟨_, _, hen, rfl, ⟨s1.tm, s3.hp, s3.nx⟩, F3, M3, rfl, r3.toHR.putAlien al3 hlt3 _ alR toR hbl, t2.trans (t3.sandwich hl2 al2.2.1 al2.2.2), hq3⟩
              | _ => exact hq3.elim
            | _ => exact hq.elim
        obtain ⟨he, hc⟩ := hG'.2 alR f cap s _ _ F M W1 caps (w.heap.size + 1) hK k3 (hcap.tr k2) hround
        refine ⟨w.heap.size + 1, [{ target := .collected w.heap.size, args := #[] }], W1, { target := .fn (.func f) ⟨caps⟩, args := #[.func (.yield (w.heap.size + 1)) #[] #[]] }, W1, f,
          ⟨.func (.yield (w.heap.size + 1)) #[] #[] :: caps⟩, W1, ?_, ?_, fun _ _ => trivial, ?_, fun h => by simp [Fw] at h, ?_⟩
        · rw [← hW1, hrec]; exact run_enterLoop_outer _ _ _ _ _
        · simp only [resolve, hgv]
          simp [go_sem]
        · unfold enters at he
          cases hf : c.P.funcs[f]? with
          | none => rw [show (c.wa alR).P.funcs[f]? = none from hf] at he; cases he
          | some fd =>
            rw [show (c.wa alR).P.funcs[f]? = some fd from hf] at he
            simp only [Bool.and_eq_true, Bool.not_eq_true'] at he
            obtain ⟨bd, hb⟩ := Option.isSome_iff_exists.1 he.2
            have hn : fd.name ≠ "runtime.NumGoroutine" := by
              intro e; rw [e] at he; simp at he
            simp [invoke, callFunc, hf, hn, hb]
        · have hc' : CallsIn Fence.wide 0 c.P f ⟨.func (.yield (w.heap.size + 1)) #[] #[] :: caps⟩ W1 _ := callsIn_wide.2 hc
          have hc2 : CallsIn (Fw none) (0 - 1) c.P f ⟨.func (.yield (w.heap.size + 1)) #[] #[] :: caps⟩ W1 _ := hc'
          refine CallsIn.mono hc2 fun e w' hh => ?_
          obtain ⟨v, s', F', M', rfl, h', t', hq⟩ := hh
          obtain ⟨alE, hlE⟩ := h'.al _ hmR
          obtain ⟨alD, hlD⟩ := h'.al _ hmD
          have hltE : w.heap.size + 1 < w'.heap.size := (Array.getElem?_eq_some_iff.1 hlE).1
          have hen := run_endLoop (P := c.P) hlE (by rw [hrec]; simp)
          have hpn : (rec .ready).pending = none := by rw [hrec]
          have hex : ({ rec .ready with state := .exhausted } : Loop) = rec .exhausted := by rw [hrec]
          rw [hex, hpn] at hen
          refine ⟨none, _, hen, ⟨s.tm, s'.hp, s'.nx⟩, F', M', ⟨h'.putAlien alE hltE _ al toA hbl, fun t ht => ((h.tm t ht).tr (k2.trans t')).putAlien alE.2.1, ?_, h.sz⟩, (k2.trans t').alter (by omega) h.fl, hq⟩
          have hdf := h.df.tr (k2.trans t')
          have hdl : ∀ D, w'.heap[D]? = some (.deferred (some [])) → D ≠ w.heap.size + 1 := fun D hD e => by rw [e, hlE] at hD; cases hD
          have hdf2 := hdf.putAlien (o := .loop (rec .exhausted)) hdl al
          obtain ⟨Ds, d1, d2, d3⟩ := hdf2
          obtain ⟨Ds0, e1, e2, e3⟩ := h.df
          have hDs : Ds = Ds0 := by
            have := d1.symm.trans e1
            exact List.map_inj_right (fun x y e => by simp only [mark, Deferred.mk.injEq, Target.collected.injEq] at e; exact e.1) |>.1 this
          subst hDs
          refine ⟨w.heap.size :: Ds, by simp [mark, d1], List.nodup_cons.2 ⟨fun hm => ?_, d2⟩, fun D hD => ?_⟩
          · have := (Array.getElem?_eq_some_iff.1 (e3 _ hm).2).1
            omega
          · rcases List.mem_cons.1 hD with e | hD
            · subst e
              exact ⟨⟨alD, fun b hb => (h.base b hb).1.size⟩, (World.putObj_heap_other (by omega)).trans hlD⟩
            · exact d3 D hD
      | _ => exact hK.elim
  | .scope _, al, ro, hA, hro, _, s, QA, F, M, a, w, hK, h => by unfold awC at hK; exact hK.elim
  | .label _, al, ro, hA, hro, _, s, QA, F, M, a, w, hK, h => by unfold awC at hK; exact hK.elim
  | .goto _, al, ro, hA, hro, _, s, QA, F, M, a, w, hK, h => by unfold awC at hK; exact hK.elim
  | .refuse _, al, ro, hA, hro, _, s, QA, F, M, a, w, hK, h => by unfold awC at hK; exact hK.elim
end Ab
