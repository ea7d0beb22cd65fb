import Derived.Test.YteghdokklckbhaaDoorXRun
/-!
The abstract machine as a program: code and functions.
-/
namespace Ab
open Go

def tmL {α : Type} (tm : Nat → AV) : Nat → Nat → (List AV → α) → α
  | _, 0, K => K []
  | i, n + 1, K => forceV (tm i) fun v => tmL tm (Nat.succ i) n fun l => K (v :: l)
theorem tmL_eq {α : Type} (tm : Nat → AV) : ∀ (n i : Nat) (K : List AV → α), tmL tm i n K = K ((List.range' i n).map tm)
  | 0, _, _ => rfl
  | n + 1, i, K => by unfold tmL; rw [forceV_eq, tmL_eq tm n (Nat.succ i)]; rfl
def forceK {α : Type} (b : Option Blk) (K : Option Blk → α) : α :=
  match b with
  | none => K none
  | some (.box cs) => forceVs cs fun cs => K (some (.box cs))
  | some (.own et cs) => forceVs cs fun cs => K (some (.own et cs))
  | some (.arr sz rows lv) => forceRs rows fun rows => K (some (.arr sz rows lv))
theorem forceK_eq {α : Type} (b : Option Blk) (K : Option Blk → α) : forceK b K = K b := by
  cases b with
  | none => rfl
  | some b => cases b <;> simp only [forceK, forceVs_eq, forceRs_eq]
def hpL {α : Type} (hp : Nat → Option Blk) : Nat → Nat → (List (Option Blk) → α) → α
  | _, 0, K => K []
  | i, n + 1, K => forceK (hp i) fun v => hpL hp (Nat.succ i) n fun l => K (v :: l)
theorem hpL_eq {α : Type} (hp : Nat → Option Blk) : ∀ (n i : Nat) (K : List (Option Blk) → α), hpL hp i n K = K ((List.range' i n).map hp)
  | 0, _, _ => rfl
  | n + 1, i, K => by unfold hpL; rw [forceK_eq, hpL_eq hp n (Nat.succ i)]; rfl

def ofL (l : List AV) (h : List (Option Blk)) (nx : Nat) : St := ⟨fun k => (nth l k).getD .undef, fun k => (nth h k).getD none, nx⟩
/-- the state, written out -/
def norm {α : Type} (N : Nat) (s : St) (K : St → α) : α := tmL s.tm 0 N fun l => forceN s.nx fun nx => hpL s.hp 0 nx fun h => K (ofL l h nx)
def normS (N : Nat) (s : St) : St := ofL ((List.range' 0 N).map s.tm) ((List.range' 0 s.nx).map s.hp) s.nx
theorem norm_eq {α : Type} (N : Nat) (s : St) (K : St → α) : norm N s K = K (normS N s) := by
  unfold norm; rw [tmL_eq, forceN_eq, hpL_eq]; rfl
theorem normS_le (N : Nat) (s : St) : Le (normS N s) s := by
  refine ⟨fun t => ?_, fun k => ?_, Nat.le_refl _⟩
  · simp only [normS, ofL, nth_eq]
    rw [List.getElem?_map]
    by_cases h : t < N
    · right; rw [List.getElem?_range' h]; simp
    · left; rw [List.getElem?_eq_none (by simpa using h)]; rfl
  · simp only [normS, ofL, nth_eq]
    rw [List.getElem?_map]
    by_cases h : k < s.nx
    · right; rw [List.getElem?_range' h]; simp
    · left; rw [List.getElem?_eq_none (by simpa using h)]; rfl

abbrev Cal := FuncId → List AV → St → Option (AV × St)

section
variable (T : List (Nat × TyI)) (gl : List (Nat × AV)) (calD cal : Cal)

def youngB (chk : Bool) (p : Nat → Bool) (op : Op) (s : St) (x : Option St) : Option St :=
  match turnsOp op with
  | false => x
  | true => match chk with
    | false => x
    | true => guardB ((touch gl op s).all fun k => not (p k)) x
def stepB (fl : Oper → Fl) (p : Nat → Bool) (o : Oper) (s : St) : Option St :=
  youngB gl (fl o).chk p o.op s (runOp T gl (bif (fl o).hs then cal else calD) (bif (fl o).lim then some p else none) o s)
def runOps (fl : Oper → Fl) (p : Nat → Bool) (ops : Array Oper) : List Oper → St → Option St
  | [], s => some s
  | o :: rest, s =>
    match guardOf ops o with
    | none => match stepB T gl calD cal fl p o s with | some s' => runOps fl p ops rest s' | none => none
    | some (some d, want) => match s.tm d with
      | .bool b => match (bif b then want else not want) with
        | true => match stepB T gl calD cal fl p o s with | some s' => runOps fl p ops rest s' | none => none
        | false => runOps fl p ops rest (put o.dst (.tup []) s)
      | .tup [] => runOps fl p ops rest (put o.dst (.tup []) s)
      | _ => none
    | some (none, _) => none

def loopB (f : St → Option (Exit × St)) (N : Nat) : Nat → St → Option (Exit × St)
  | 0, _ => none
  | m + 1, s => norm N s fun s => match f s with | some (.normal, s') => loopB f N m s' | r => r

def runC (N fuel : Nat) : Code → St → Option (Exit × St)
  | .skip, s => some (.normal, s)
  | .region _ ops false, s => match runOps T gl calD cal flagsNo (fun _ => true) ops ops.toList s with | some s' => some (.normal, s') | none => none
  | .region _ ops true, s => guardB (drawOk ops) (match runOps T gl calD cal (flags ops) (sees gl ops s) ops ops.toList s with | some s' => some (.normal, s') | none => none)
  | .seq a b, s => match runC N fuel a s with | some (.normal, s') => runC N fuel b s' | r => r
  | .cond c a b, s => match ev gl s c with | .bool t => (match t with | true => runC N fuel a s | false => runC N fuel b s) | _ => none
  | .block id c, s => match runC N fuel c s with | some (.exit i, s') => (match Nat.beq i id with | true => some (.normal, s') | false => some (.exit i, s')) | r => r
  | .loop c, s => loopB (fun s => runC N fuel c s) N fuel s
  | .exit id, s => some (.exit id, s)
  | .ret, s => some (.ret, s)
  | _, _ => none

variable {T gl calD cal} {HD H : Tg → List AV → St → (AV → St → Prop) → Prop} {G : FuncId → List AV → St → (List AV → St → (St → Prop) → Prop) → (St → Prop) → Prop}

theorem stepB_ok (hD : ∀ f vs s, Give2 (calD f vs s) (HD (.fn f) vs s)) (hH : ∀ f vs s, Give2 (cal f vs s) (H (.fn f) vs s)) {fl : Oper → Fl} {p : Nat → Bool} {o : Oper} {s s' : St} {K : St → Prop} (h : stepB T gl calD cal fl p o s = some s') (hK : K s') :
    young gl (fl o).chk p o.op s (aOp T gl (bif (fl o).hs then H else HD) (bif (fl o).lim then some p else none) o s K) := by
  have main : ∀ lim', runOp T gl (bif (fl o).hs then cal else calD) lim' o s = some s' → aOp T gl (bif (fl o).hs then H else HD) lim' o s K := by
    intro lim' h
    cases hh : (fl o).hs with
    | true => rw [hh] at h; exact runOp_ok hH h hK
    | false => rw [hh] at h; exact runOp_ok hD h hK
  unfold stepB youngB at h
  unfold young
  cases hm : turnsOp o.op with
  | false => rw [hm] at h; exact main _ h
  | true =>
    rw [hm] at h
    simp only at h ⊢
    cases hc : (fl o).chk with
    | false => rw [hc] at h; exact main _ h
    | true =>
      rw [hc] at h
      obtain ⟨h1, h2⟩ := guardB_some h
      simp only [h1]
      exact main _ h2

theorem runOps_ok (hD : ∀ f vs s, Give2 (calD f vs s) (HD (.fn f) vs s)) (hH : ∀ f vs s, Give2 (cal f vs s) (H (.fn f) vs s)) {fl : Oper → Fl} {p : Nat → Bool} {ops : Array Oper} : ∀ (l : List Oper) (s s' : St) (K : St → Prop), runOps T gl calD cal fl p ops l s = some s' → K s' →
    aOps T gl HD H fl p ops l s K
  | [], s, s', K, h, hK => by cases h; exact hK
  | o :: rest, s, s', K, h, hK => by
      unfold runOps at h
      rw [aOps_cons]
      unfold stepA
      have go : (match stepB T gl calD cal fl p o s with | some s' => runOps T gl calD cal fl p ops rest s' | none => none) = some s' →
          young gl (fl o).chk p o.op s (aOp T gl (bif (fl o).hs then H else HD) (bif (fl o).lim then some p else none) o s fun s' => aOps T gl HD H fl p ops rest s' K) := by
        intro h
        cases hs1 : stepB T gl calD cal fl p o s with
        | none => rw [hs1] at h; cases h
        | some s1 =>
          rw [hs1] at h
          exact stepB_ok hD hH hs1 (K := fun s' => aOps T gl HD H fl p ops rest s' K) (runOps_ok hD hH rest s1 s' K h hK)
      cases hg : guardOf ops o with
      | none => rw [hg] at h; exact go h
      | some q =>
        obtain ⟨d, want⟩ := q
        cases d with
        | none => rw [hg] at h; cases h
        | some d =>
          rw [hg] at h
          simp only at h ⊢
          cases hb : s.tm d with
          | bool b =>
            rw [hb] at h
            simp only at h ⊢
            refine ⟨fun e => ?_, fun e => ?_⟩
            · subst e
              rw [put_same hb]
              cases b <;> exact go h
            · rw [← e, put_same hb]
              cases b <;> cases want <;> first | (cases e; done) | exact runOps_ok hD hH rest _ s' K h hK
          | tup l =>
            rw [hb] at h
            cases l with
            | cons _ _ => cases h
            | nil => exact runOps_ok hD hH rest _ s' K h hK
          | _ => rw [hb] at h; cases h

theorem runC_ok (hD : ∀ f vs s, Give2 (calD f vs s) (HD (.fn f) vs s)) (hH : ∀ f vs s, Give2 (cal f vs s) (H (.fn f) vs s)) {N fuel : Nat} : ∀ (cd : Code) (s : St) (e : Exit) (s' : St) (Q : Exit → St → Prop), runC T gl calD cal N fuel cd s = some (e, s') → Q e s' → awC T gl HD H G cd s Q
  | .skip, s, e, s', Q, h, hQ => by unfold runC at h; cases h; unfold awC; exact hQ
  | .exit id, s, e, s', Q, h, hQ => by unfold runC at h; cases h; unfold awC; exact hQ
  | .ret, s, e, s', Q, h, hQ => by unfold runC at h; cases h; unfold awC; exact hQ
  | .region id ops false, s, e, s', Q, h, hQ => by
      unfold runC at h; unfold awC
      cases hr : runOps T gl calD cal flagsNo (fun _ => true) ops ops.toList s with
      | none => rw [hr] at h; cases h
      | some s1 => rw [hr] at h; cases h; exact runOps_ok hD hH _ _ _ _ hr hQ
  | .region id ops true, s, e, s', Q, h, hQ => by
      unfold runC at h; unfold awC
      obtain ⟨h1, h⟩ := guardB_some h
      refine ⟨h1, ?_⟩
      cases hr : runOps T gl calD cal (flags ops) (sees gl ops s) ops ops.toList s with
      | none => rw [hr] at h; cases h
      | some s1 => rw [hr] at h; cases h; exact runOps_ok hD hH _ _ _ _ hr hQ
  | .seq a b, s, e, s', Q, h, hQ => by
      unfold runC at h; unfold awC
      cases hr : runC T gl calD cal N fuel a s with
      | none => rw [hr] at h; cases h
      | some p =>
        obtain ⟨e1, s1⟩ := p
        rw [hr] at h
        refine runC_ok hD hH a s e1 s1 _ hr ?_
        cases e1 with
        | normal => exact runC_ok hD hH b s1 e s' Q h hQ
        | _ => cases h; exact hQ
  | .cond c a b, s, e, s', Q, h, hQ => by
      unfold runC at h; unfold awC
      cases hc : ev gl s c with
      | bool t =>
        rw [hc] at h
        cases t with
        | true => exact ⟨fun _ => runC_ok hD hH a s e s' Q h hQ, fun e => by cases e⟩
        | false => exact ⟨fun e => (by cases e), fun _ => runC_ok hD hH b s e s' Q h hQ⟩
      | _ => rw [hc] at h; cases h
  | .block id c, s, e, s', Q, h, hQ => by
      unfold runC at h; unfold awC
      cases hr : runC T gl calD cal N fuel c s with
      | none => rw [hr] at h; cases h
      | some p =>
        obtain ⟨e1, s1⟩ := p
        rw [hr] at h
        refine runC_ok hD hH c s e1 s1 _ hr ?_
        cases e1 with
        | exit i =>
          simp only at h ⊢
          cases hb : Nat.beq i id with
          | true => rw [hb] at h; cases h; exact hQ
          | false => rw [hb] at h; cases h; exact hQ
        | _ => cases h; exact hQ
  | .loop c, s, e, s', Q, h, hQ => by
      unfold runC at h; unfold awC
      classical
      let f := fun s => runC T gl calD cal N fuel c s
      let I : St → Prop := fun s1 => ∃ m s0, s1 = normS N s0 ∧ loopB f N m s0 = some (e, s')
      let μ : St → Nat := fun s1 => if hI : ∃ m s0, s1 = normS N s0 ∧ loopB f N m s0 = some (e, s') then Classical.choose (exists_least (fun m => ∃ s0, s1 = normS N s0 ∧ loopB f N m s0 = some (e, s')) hI) else 0
      refine ⟨I, μ, ⟨normS N s, normS_le N s, fuel, s, rfl, h⟩, fun s1 hI => ?_⟩
      have hs := Classical.choose_spec (exists_least (fun m => ∃ s0, s1 = normS N s0 ∧ loopB f N m s0 = some (e, s')) hI)
      have hμ : μ s1 = Classical.choose (exists_least (fun m => ∃ s0, s1 = normS N s0 ∧ loopB f N m s0 = some (e, s')) hI) := dif_pos hI
      rw [hμ]
      generalize Classical.choose (exists_least (fun m => ∃ s0, s1 = normS N s0 ∧ loopB f N m s0 = some (e, s')) hI) = m at hs
      obtain ⟨⟨s0, rfl, hl⟩, hmin⟩ := hs
      cases m with
      | zero => cases hl
      | succ m =>
        unfold loopB at hl
        rw [norm_eq] at hl
        cases hr : f (normS N s0) with
        | none => rw [hr] at hl; cases hl
        | some p =>
          obtain ⟨e1, s2⟩ := p
          rw [hr] at hl
          refine runC_ok hD hH c _ e1 s2 _ hr ?_
          cases e1 with
          | normal =>
            refine ⟨normS N s2, normS_le N s2, ⟨m, s2, rfl, hl⟩, ?_⟩
            have hI2 : ∃ m s0, normS N s2 = normS N s0 ∧ loopB f N m s0 = some (e, s') := ⟨m, s2, rfl, hl⟩
            have hμ2 : μ (normS N s2) = Classical.choose (exists_least (fun m => ∃ s0, normS N s2 = normS N s0 ∧ loopB f N m s0 = some (e, s')) hI2) := dif_pos hI2
            rw [hμ2]
            exact Nat.lt_succ_of_le ((Classical.choose_spec (exists_least (fun m => ∃ s0, normS N s2 = normS N s0 ∧ loopB f N m s0 = some (e, s')) hI2)).2 m ⟨s2, rfl, hl⟩)
          | _ => cases hl; exact hQ
  | .rangeFunc _ _ _ _, s, e, s', Q, h, hQ => by unfold runC at h; cases h
  | .scope _, s, e, s', Q, h, hQ => by unfold runC at h; cases h
  | .label _, s, e, s', Q, h, hQ => by unfold runC at h; cases h
  | .goto _, s, e, s', Q, h, hQ => by unfold runC at h; cases h
  | .refuse _, s, e, s', Q, h, hQ => by unfold runC at h; cases h
end

/-! functions -/

def resB (T : List (Nat × TyI)) (s : St) : List ResultVar → Option (List AV)
  | [] => some []
  | .tmp t :: rs => (resB T s rs).bind fun vs => some (s.tm t :: vs)
  | .cell a t :: rs => (aLoadB T none t (s.tm a) s).bind fun v => (resB T s rs).bind fun vs => some (v :: vs)
theorem resB_ok (T : List (Nat × TyI)) (s : St) : ∀ rs, Gives (resB T s rs) (resA T s rs)
  | [] => Gives.one _
  | .tmp t :: rs => by
      intro vs h K hK
      unfold resA
      rw [force_eq]
      exact (resB_ok T s rs).map (fun vs => s.tm t :: vs) vs h K hK
  | .cell a t :: rs => (aLoadB_ok T none t (s.tm a) s).bind fun v => (resB_ok T s rs).map fun vs => v :: vs

def fnOk (P : Program) (f : FuncId) (fn : Func) : Bool :=
  match fn.body with
  | some cd => and (and (enters P f) (codeOk P fn.ntmps cd)) (fn.results.toList.all fun r => match r with | .tmp t => Nat.blt t fn.ntmps | .cell a _ => Nat.blt a fn.ntmps)
  | none => false
def FTok (P : Program) (FT : List (Nat × Func)) : Prop := ∀ f fn, look FT f = some fn → P.funcs[f]? = some fn ∧ fnOk P f fn = true
theorem FTok.nil (P : Program) : FTok P [] := fun f fn h => by cases h
theorem FTok.cons {P : Program} {FT : List (Nat × Func)} {f : Nat} {fn : Func} (h1 : P.funcs[f]? = some fn) (h2 : fnOk P f fn = true) (h : FTok P FT) : FTok P ((f, fn) :: FT) := by
  intro g gn hg
  unfold look at hg
  cases hb : Nat.beq g f with
  | true =>
    rw [hb] at hg
    simp only [cond_true, Option.some.injEq] at hg
    subst hg
    rw [Nat.eq_of_beq_eq_true hb]
    exact ⟨h1, h2⟩
  | false => rw [hb] at hg; exact h g gn hg

section
variable (T : List (Nat × TyI)) (gl : List (Nat × AV)) (FT : List (Nat × Func)) (fuel : Nat) (kn : FuncId → List AV → Option AV)

def calS : Cal := fun f vs s => (toDAsB s.hp vs).bind fun ds => forceVs ds fun ds => (kn f ds).bind fun r => match plainR r with | true => some (r, s) | false => some (r, ⟨s.tm, frz (keysAs vs) s.hp, s.nx⟩)
def calW : Cal := fun f vs s => (toWsB s.hp vs).bind fun ds => forceVs ds fun ds => (kn f ds).bind fun r => match plainR r with | true => some (r, s) | false => some (r, ⟨s.tm, frzW (keysWs s.hp vs) s.hp, s.nx⟩)
def exitOk : Exit → Bool | .normal => true | .ret => true | _ => false
/-- by contract, or entered -/
def calI : Nat → Cal
  | 0 => calW kn
  | d + 1 => fun f vs s => match calW kn f vs s with
    | some r => some r
    | none => match look FT f with
      | none => none
      | some fn => match fn.body with
        | none => none
        | some cd => guardB (Nat.ble vs.length fn.ntmps) (match runC T gl (calS kn) (calI d) fn.ntmps fuel cd ⟨tmOf vs, s.hp, s.nx⟩ with
          | some (e, s') => guardB (exitOk e) ((resB T s' fn.results.toList).bind fun vs => some (resV vs, ⟨s.tm, s'.hp, s'.nx⟩))
          | none => none)

/-- a function of data -/
def runFn (f : FuncId) (ds : List AV) : Option AV :=
  match look FT f with
  | none => none
  | some fn => match fn.body with
    | none => none
    | some cd => guardB (Nat.ble ds.length fn.ntmps) (match runC T gl (calS kn) (calI T gl FT fuel kn 3) fn.ntmps fuel cd ⟨tmOf ds, fun _ => none, 0⟩ with
      | some (e, s') => guardB (exitOk e) ((resB T s' fn.results.toList).bind fun vs => (toWRB s'.hp (resV vs)).bind fun d => forceV d fun d => some d)
      | none => none)
def runF (base : FuncId → List AV → Option AV) : Nat → FuncId → List AV → Option AV
  | 0 => base
  | n + 1 => fun f ds => match base f ds with
    | some r => some r
    | none => runFn T gl FT fuel (runF base n) f ds

variable {T gl FT fuel kn} {P : Program}

theorem calS_ok (hk : ∀ f ds r, kn f ds = some r → Spec P gl f ds r) (f : FuncId) (vs : List AV) (s : St) : Give2 (calS kn f vs s) (callS P gl (.fn f) vs s) := by
  intro v s' h K hK
  unfold calS at h
  simp only [forceVs_eq] at h
  obtain ⟨ds, h1, h2⟩ := Option.bind_eq_some_iff.1 h
  obtain ⟨r, h3, h4⟩ := Option.bind_eq_some_iff.1 h2
  refine toDAsB_ok s.hp vs ds h1 _ ⟨r, hk f ds r h3, ?_⟩
  cases hp : plainR r with
  | true => rw [hp] at h4; cases h4; exact hK
  | false => rw [hp] at h4; cases h4; exact hK
theorem calW_ok (hk : ∀ f ds r, kn f ds = some r → Spec P gl f ds r) (f : FuncId) (vs : List AV) (s : St) : Give2 (calW kn f vs s) (callW P gl (.fn f) vs s) := by
  intro v s' h K hK
  unfold calW at h
  simp only [forceVs_eq] at h
  obtain ⟨ds, h1, h2⟩ := Option.bind_eq_some_iff.1 h
  obtain ⟨r, h3, h4⟩ := Option.bind_eq_some_iff.1 h2
  refine toWsB_ok s.hp vs ds h1 _ ⟨r, hk f ds r h3, ?_⟩
  cases hp : plainR r with
  | true => rw [hp] at h4; cases h4; exact hK
  | false => rw [hp] at h4; cases h4; exact hK

theorem fnOk_parts {f : FuncId} {fn : Func} (h : fnOk P f fn = true) : ∃ cd, fn.body = some cd ∧ enters P f = true ∧ codeOk P fn.ntmps cd = true ∧
    (fn.results.toList.all fun r => match r with | .tmp t => Nat.blt t fn.ntmps | .cell a _ => Nat.blt a fn.ntmps) = true := by
  unfold fnOk at h
  cases hb : fn.body with
  | none => rw [hb] at h; cases h
  | some cd =>
    rw [hb] at h
    simp only [Bool.and_eq_true] at h
    exact ⟨cd, rfl, h.1.1, h.1.2, h.2⟩
theorem exitOk_or {e : Exit} (h : exitOk e = true) : e = .normal ∨ e = .ret := by
  cases e <;> first | exact .inl rfl | exact .inr rfl | cases h

theorem calI_ok (hF : FTok P FT) (hk : ∀ f ds r, kn f ds = some r → Spec P gl f ds r) : ∀ (d : Nat) (f : FuncId) (vs : List AV) (s : St), Give2 (calI T gl FT fuel kn d f vs s) (Hn P T gl d (.fn f) vs s)
  | 0, f, vs, s => calW_ok hk f vs s
  | d + 1, f, vs, s => by
      intro v s' h K hK
      unfold calI at h
      unfold Hn
      cases hw : calW kn f vs s with
      | some p => rw [hw] at h; cases h; exact .inl (calW_ok hk f vs s v s' hw K hK)
      | none =>
        rw [hw] at h
        right
        cases hl : look FT f with
        | none => rw [hl] at h; cases h
        | some fn =>
          rw [hl] at h
          obtain ⟨h1, h2⟩ := hF f fn hl
          obtain ⟨cd, g1, g2, g3, g4⟩ := fnOk_parts h2
          simp only [g1] at h
          obtain ⟨h5, h⟩ := guardB_some h
          refine .inl ⟨fn, cd, h1, g1, g2, g3, h5, g4, ?_⟩
          cases hr : runC T gl (calS kn) (calI T gl FT fuel kn d) fn.ntmps fuel cd ⟨tmOf vs, s.hp, s.nx⟩ with
          | none => rw [hr] at h; cases h
          | some p =>
            obtain ⟨e, s1⟩ := p
            rw [hr] at h
            obtain ⟨h6, h⟩ := guardB_some h
            obtain ⟨us, h7, h8⟩ := Option.bind_eq_some_iff.1 h
            cases h8
            exact runC_ok (calS_ok hk) (calI_ok hF hk d) cd _ e s1 _ hr ⟨exitOk_or h6, resB_ok T s1 _ us h7 _ hK⟩

theorem runFn_spec (hT : TOk P T) (hmo : P.follows .mixedOrders = true) (hF : FTok P FT) (hk : ∀ f ds r, kn f ds = some r → Spec P gl f ds r) {f : FuncId} {ds : List AV} {r : AV} (h : runFn T gl FT fuel kn f ds = some r) : Spec P gl f ds r := by
  unfold runFn at h
  cases hl : look FT f with
  | none => rw [hl] at h; cases h
  | some fn =>
    rw [hl] at h
    obtain ⟨h1, h2⟩ := hF f fn hl
    obtain ⟨cd, g1, g2, g3, g4⟩ := fnOk_parts h2
    simp only [g1] at h
    obtain ⟨h5, h⟩ := guardB_some h
    refine spec_of hT hmo 3 h1 g1 g2 g3 h5 g4 ?_
    cases hr : runC T gl (calS kn) (calI T gl FT fuel kn 3) fn.ntmps fuel cd ⟨tmOf ds, fun _ => none, 0⟩ with
    | none => rw [hr] at h; cases h
    | some p =>
      obtain ⟨e, s1⟩ := p
      rw [hr] at h
      obtain ⟨h6, h⟩ := guardB_some h
      obtain ⟨us, h7, h8⟩ := Option.bind_eq_some_iff.1 h
      obtain ⟨d, h9, h10⟩ := Option.bind_eq_some_iff.1 h8
      rw [forceV_eq] at h10
      cases h10
      exact runC_ok (calS_ok hk) (calI_ok hF hk 3) cd _ e s1 _ hr ⟨exitOk_or h6, resB_ok T s1 _ us h7 _ (toWRB_ok _ _ r h9 _ rfl)⟩

/-- a run is a contract -/
theorem runF_spec (hT : TOk P T) (hmo : P.follows .mixedOrders = true) (hF : FTok P FT) {base : FuncId → List AV → Option AV} (hb : ∀ f ds r, base f ds = some r → Spec P gl f ds r) : ∀ (n : Nat) {f : FuncId} {ds : List AV} {r : AV}, runF T gl FT fuel base n f ds = some r → Spec P gl f ds r
  | 0, f, ds, r, h => hb f ds r h
  | n + 1, f, ds, r, h => by
      unfold runF at h
      cases hbs : base f ds with
      | some r' => rw [hbs] at h; cases h; exact hb f ds _ hbs
      | none =>
        rw [hbs] at h
        exact runFn_spec hT hmo hF (fun f ds r => runF_spec hT hmo hF hb n) h
end
end Ab
