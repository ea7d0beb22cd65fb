import Derived.Test.YtbcgkonhkoopnaaGreatXRun
/-!
The abstract machine as a program: code and functions.
-/
namespace Ab
open Go

def tmL {α : Type} (tm : Nat → AV) : Nat → Nat → (List AV → α) → α
  | _, 0, K => K []
  | i, n + 1, K => forceV (tm i) fun v => tmL tm (Nat.succ i) n fun l => K (v :: l)
theorem tmL_eq {α : Type} (tm : Nat → AV) : ∀ (n i : Nat) (K : List AV → α), tmL tm i n K = K ((List.range' i n).map tm)
  | 0, _, _ => rfl
  | n + 1, i, K => by unfold tmL; rw [forceV_eq, tmL_eq tm n (Nat.succ i)]; rfl
def forceK {α : Type} (b : Option Blk) (K : Option Blk → α) : α :=
  match b with
  | none => K none
  | some .res => K (some .res)
  | some (.box cs) => forceVs cs fun cs => K (some (.box cs))
  | some (.own et cs) => forceVs cs fun cs => K (some (.own et cs))
  | some (.arr sz rows lv) => forceRs rows fun rows => K (some (.arr sz rows lv))
theorem forceK_eq {α : Type} (b : Option Blk) (K : Option Blk → α) : forceK b K = K b := by
  cases b with
  | none => rfl
  | some b => cases b <;> simp only [forceK, forceVs_eq, forceRs_eq]
def hpL {α : Type} (hp : Nat → Option Blk) : Nat → Nat → (List (Option Blk) → α) → α
  | _, 0, K => K []
  | i, n + 1, K => forceK (hp i) fun v => hpL hp (Nat.succ i) n fun l => K (v :: l)
theorem hpL_eq {α : Type} (hp : Nat → Option Blk) : ∀ (n i : Nat) (K : List (Option Blk) → α), hpL hp i n K = K ((List.range' i n).map hp)
  | 0, _, _ => rfl
  | n + 1, i, K => by unfold hpL; rw [forceK_eq, hpL_eq hp n (Nat.succ i)]; rfl

def ofL (l : List AV) (h : List (Option Blk)) (nx : Nat) : St := ⟨fun k => (nth l k).getD .undef, fun k => (nth h k).getD none, nx⟩
/-- the state, written out -/
def norm {α : Type} (N : Nat) (s : St) (K : St → α) : α := tmL s.tm 0 N fun l => forceN s.nx fun nx => hpL s.hp 0 nx fun h => K (ofL l h nx)
def normS (N : Nat) (s : St) : St := ofL ((List.range' 0 N).map s.tm) ((List.range' 0 s.nx).map s.hp) s.nx
theorem norm_eq {α : Type} (N : Nat) (s : St) (K : St → α) : norm N s K = K (normS N s) := by
  unfold norm; rw [tmL_eq, forceN_eq, hpL_eq]; rfl
theorem normS_le (N : Nat) (s : St) : Le (normS N s) s := by
  refine ⟨fun t => ?_, fun k => ?_, Nat.le_refl _⟩
  · simp only [normS, ofL, nth_eq]
    rw [List.getElem?_map]
    by_cases h : t < N
    · right; rw [List.getElem?_range' h]; simp
    · left; rw [List.getElem?_eq_none (by simpa using h)]; rfl
  · simp only [normS, ofL, nth_eq]
    rw [List.getElem?_map]
    by_cases h : k < s.nx
    · right; rw [List.getElem?_range' h]; simp
    · left; rw [List.getElem?_eq_none (by simpa using h)]; rfl

abbrev Cal := FuncId → List AV → St → Option (AV × St)

section
variable (T : List (Nat × TyI)) (gl : List (Nat × AV)) (calD cal : Cal)

def youngB (chk : Bool) (p : Nat → Bool) (op : Op) (s : St) (x : Option St) : Option St :=
  match turnsOp op with
  | false => x
  | true => match chk with
    | false => x
    | true => guardB ((touch gl op s).all fun k => not (p k)) x
def oldB (old : Bool) (p : Nat → Bool) (op : Op) (s : St) : Bool :=
  match old with
  | false => true
  | true => match op with
    | .call { callee := .value f, args := args, argTypes := _ } => match ev gl s f with
      | .fn _ cap => and (not (ptrs (appL (evs gl s args.toList) cap))) ((keysAs (appL (evs gl s args.toList) cap)).all p)
      | _ => false
    | _ => false
def resB1 (k : Nat) (o : Oper) (s : St) : Option St :=
  match s.hp k with
  | some .res => match o.guard with
    | none => match o.op with
      | .alloc e => match look T e with
        | some i => match ones (cells i.zv) with
          | true => some (put o.dst (.bp k 0) ⟨s.tm, upd k (some (.box (cells i.zv))) s.hp, s.nx⟩)
          | false => none
        | none => none
      | _ => none
    | some _ => none
  | _ => none
def stepB (fl : Oper → Fl) (p : Nat → Bool) (o : Oper) (s : St) : Option St :=
  youngB gl (fl o).chk p o.op s (guardB (oldB gl (fl o).old p o.op s) (runOp T gl (bif (fl o).hs then cal else calD) (bif (fl o).lim then some p else none) o s))
def runOps (fl : Oper → Fl) (p : Nat → Bool) (ops : Array Oper) : List Oper → St → Option St
  | [], s => some s
  | o :: rest, s =>
   match (fl o).ky with
   | some k => (match resB1 T k o s with | some s' => runOps fl p ops rest s' | none => none)
   | none =>
    match guardOf ops o with
    | none => match stepB T gl calD cal fl p o s with | some s' => runOps fl p ops rest s' | none => none
    | some (some d, want) => match s.tm d with
      | .bool b => match (bif b then want else not want) with
        | true => match stepB T gl calD cal fl p o s with | some s' => runOps fl p ops rest s' | none => none
        | false => runOps fl p ops rest (put o.dst (.tup []) s)
      | .tup [] => runOps fl p ops rest (put o.dst (.tup []) s)
      | _ => none
    | some (none, _) => none

def loopB (f : St → Option (Exit × St)) (N : Nat) : Nat → St → Option (Exit × St)
  | 0, _ => none
  | m + 1, s => norm N s fun s => match f s with | some (.normal, s') => loopB f N m s' | r => r

def runC (N fuel : Nat) : Code → St → Option (Exit × St)
  | .skip, s => some (.normal, s)
  | .region _ ops false, s => match runOps T gl calD cal flagsNo (fun _ => true) ops ops.toList s with | some s' => some (.normal, s') | none => none
  | .region _ ops true, s => guardB (drawOk ops) (match runOps T gl calD cal (flagsAt s.nx ops) (sees gl ops s) ops ops.toList (kept (keptN ops) s) with | some s' => some (.normal, s') | none => none)
  | .seq a b, s => match runC N fuel a s with | some (.normal, s') => runC N fuel b s' | r => r
  | .cond c a b, s => match ev gl s c with | .bool t => (match t with | true => runC N fuel a s | false => runC N fuel b s) | _ => none
  | .block id c, s => match runC N fuel c s with | some (.exit i, s') => (match Nat.beq i id with | true => some (.normal, s') | false => some (.exit i, s')) | r => r
  | .loop c, s => loopB (fun s => runC N fuel c s) N fuel s
  | .exit id, s => some (.exit id, s)
  | .ret, s => some (.ret, s)
  | _, _ => none

variable {T gl calD cal} {HD H : Tg → List AV → St → (AV → St → Prop) → Prop} {G : FuncId → List AV → St → (List AV → St → (St → Prop) → Prop) → (St → Prop) → Prop}

theorem oldB_ok {old : Bool} {p : Nat → Bool} {op : Op} {s : St} {X : Prop} (h : oldB gl old p op s = true) (hX : X) : oldA gl old p op s X := by
  unfold oldB at h
  unfold oldA
  cases old with
  | false => exact hX
  | true =>
    simp only at h ⊢
    split at h
    · rename_i f args ts
      simp only
      cases hf : ev gl s f with
      | fn g cap =>
        rw [hf] at h
        simp only at h ⊢
        rw [h]
        exact hX
      | _ => rw [hf] at h; cases h
    · cases h
theorem resB1_ok {k : Nat} {o : Oper} {s s' : St} {K : St → Prop} (h : resB1 T k o s = some s') (hK : K s') : aRes T k o s K := by
  unfold resB1 at h
  unfold aRes
  cases hk : s.hp k with
  | none => rw [hk] at h; cases h
  | some b =>
    cases b with
    | res =>
      rw [hk] at h
      cases hg : o.guard with
      | some g => rw [hg] at h; cases h
      | none =>
        rw [hg] at h
        simp only at h ⊢
        cases ho : o.op with
        | alloc e =>
          rw [ho] at h
          simp only at h ⊢
          cases hl : look T e with
          | none => rw [hl] at h; cases h
          | some i =>
            rw [hl] at h
            simp only at h ⊢
            cases h1 : ones (cells i.zv) with
            | false => rw [h1] at h; cases h
            | true => rw [h1] at h; cases h; exact hK
        | _ => rw [ho] at h; cases h
    | _ => rw [hk] at h; cases h

theorem stepB_ok (hD : ∀ f vs s, Give2 (calD f vs s) (HD (.fn f) vs s)) (hH : ∀ f vs s, Give2 (cal f vs s) (H (.fn f) vs s)) {fl : Oper → Fl} {p : Nat → Bool} {o : Oper} {s s' : St} {K : St → Prop} (h : stepB T gl calD cal fl p o s = some s') (hK : K s') :
    young gl (fl o).chk p o.op s (oldA gl (fl o).old p o.op s (aOp T gl (bif (fl o).hs then H else HD) (bif (fl o).lim then some p else none) o s K)) := by
  have main : ∀ lim', guardB (oldB gl (fl o).old p o.op s) (runOp T gl (bif (fl o).hs then cal else calD) lim' o s) = some s' → oldA gl (fl o).old p o.op s (aOp T gl (bif (fl o).hs then H else HD) lim' o s K) := by
    intro lim' h
    obtain ⟨hb, h⟩ := guardB_some h
    refine oldB_ok hb ?_
    cases hh : (fl o).hs with
    | true => rw [hh] at h; exact runOp_ok hH h hK
    | false => rw [hh] at h; exact runOp_ok hD h hK
  unfold stepB youngB at h
  unfold young
  cases hm : turnsOp o.op with
  | false => rw [hm] at h; exact main _ h
  | true =>
    rw [hm] at h
    simp only at h ⊢
    cases hc : (fl o).chk with
    | false => rw [hc] at h; exact main _ h
    | true =>
      rw [hc] at h
      obtain ⟨h1, h2⟩ := guardB_some h
      simp only [h1]
      exact main _ h2

theorem runOps_ok (hD : ∀ f vs s, Give2 (calD f vs s) (HD (.fn f) vs s)) (hH : ∀ f vs s, Give2 (cal f vs s) (H (.fn f) vs s)) {fl : Oper → Fl} {p : Nat → Bool} {ops : Array Oper} : ∀ (l : List Oper) (s s' : St) (K : St → Prop), runOps T gl calD cal fl p ops l s = some s' → K s' →
    aOps T gl HD H fl p ops l s K
  | [], s, s', K, h, hK => by cases h; exact hK
  | o :: rest, s, s', K, h, hK => by
      unfold runOps at h
      rw [aOps_cons]
      unfold stepA
      cases hky : (fl o).ky with
      | some k =>
        rw [hky] at h
        simp only at h ⊢
        cases hs1 : resB1 T k o s with
        | none => rw [hs1] at h; cases h
        | some s1 =>
          rw [hs1] at h
          exact resB1_ok hs1 (K := fun s' => aOps T gl HD H fl p ops rest s' K) (runOps_ok hD hH rest s1 s' K h hK)
      | none =>
      rw [hky] at h
      simp only at h ⊢
      have go : (match stepB T gl calD cal fl p o s with | some s' => runOps T gl calD cal fl p ops rest s' | none => none) = some s' →
          young gl (fl o).chk p o.op s (oldA gl (fl o).old p o.op s (aOp T gl (bif (fl o).hs then H else HD) (bif (fl o).lim then some p else none) o s fun s' => aOps T gl HD H fl p ops rest s' K)) := by
        intro h
        cases hs1 : stepB T gl calD cal fl p o s with
        | none => rw [hs1] at h; cases h
        | some s1 =>
          rw [hs1] at h
          exact stepB_ok hD hH hs1 (K := fun s' => aOps T gl HD H fl p ops rest s' K) (runOps_ok hD hH rest s1 s' K h hK)
      cases hg : guardOf ops o with
      | none => rw [hg] at h; exact go h
      | some q =>
        obtain ⟨d, want⟩ := q
        cases d with
        | none => rw [hg] at h; cases h
        | some d =>
          rw [hg] at h
          simp only at h ⊢
          cases hb : s.tm d with
          | bool b =>
            rw [hb] at h
            simp only at h ⊢
            refine ⟨fun e => ?_, fun e => ?_⟩
            · subst e
              rw [put_same hb]
              cases b <;> exact go h
            · rw [← e, put_same hb]
              cases b <;> cases want <;> first | (cases e; done) | exact runOps_ok hD hH rest _ s' K h hK
          | tup l =>
            rw [hb] at h
            cases l with
            | cons _ _ => cases h
            | nil => exact runOps_ok hD hH rest _ s' K h hK
          | _ => rw [hb] at h; cases h

theorem runC_ok (hD : ∀ f vs s, Give2 (calD f vs s) (HD (.fn f) vs s)) (hH : ∀ f vs s, Give2 (cal f vs s) (H (.fn f) vs s)) {N fuel : Nat} : ∀ (cd : Code) (s : St) (e : Exit) (s' : St) (Q : Exit → St → Prop), runC T gl calD cal N fuel cd s = some (e, s') → Q e s' → awC T gl HD H G cd s Q
  | .skip, s, e, s', Q, h, hQ => by unfold runC at h; cases h; unfold awC; exact hQ
  | .exit id, s, e, s', Q, h, hQ => by unfold runC at h; cases h; unfold awC; exact hQ
  | .ret, s, e, s', Q, h, hQ => by unfold runC at h; cases h; unfold awC; exact hQ
  | .region id ops false, s, e, s', Q, h, hQ => by
      unfold runC at h; unfold awC
      cases hr : runOps T gl calD cal flagsNo (fun _ => true) ops ops.toList s with
      | none => rw [hr] at h; cases h
      | some s1 => rw [hr] at h; cases h; exact runOps_ok hD hH _ _ _ _ hr hQ
  | .region id ops true, s, e, s', Q, h, hQ => by
      unfold runC at h; unfold awC
      obtain ⟨h1, h⟩ := guardB_some h
      refine ⟨h1, ?_⟩
      cases hr : runOps T gl calD cal (flagsAt s.nx ops) (sees gl ops s) ops ops.toList (kept (keptN ops) s) with
      | none => rw [hr] at h; cases h
      | some s1 => rw [hr] at h; cases h; exact runOps_ok hD hH _ _ _ _ hr hQ
  | .seq a b, s, e, s', Q, h, hQ => by
      unfold runC at h; unfold awC
      cases hr : runC T gl calD cal N fuel a s with
      | none => rw [hr] at h; cases h
      | some p =>
        obtain ⟨e1, s1⟩ := p
        rw [hr] at h
        refine runC_ok hD hH a s e1 s1 _ hr ?_
        cases e1 with
        | normal => exact runC_ok hD hH b s1 e s' Q h hQ
        | _ => cases h; exact hQ
  | .cond c a b, s, e, s', Q, h, hQ => by
      unfold runC at h; unfold awC
      cases hc : ev gl s c with
      | bool t =>
        rw [hc] at h
        cases t with
        | true => exact ⟨fun _ => runC_ok hD hH a s e s' Q h hQ, fun e => by cases e⟩
        | false => exact ⟨fun e => (by cases e), fun _ => runC_ok hD hH b s e s' Q h hQ⟩
      | _ => rw [hc] at h; cases h
  | .block id c, s, e, s', Q, h, hQ => by
      unfold runC at h; unfold awC
      cases hr : runC T gl calD cal N fuel c s with
      | none => rw [hr] at h; cases h
      | some p =>
        obtain ⟨e1, s1⟩ := p
        rw [hr] at h
        refine runC_ok hD hH c s e1 s1 _ hr ?_
        cases e1 with
        | exit i =>
          simp only at h ⊢
          cases hb : Nat.beq i id with
          | true => rw [hb] at h; cases h; exact hQ
          | false => rw [hb] at h; cases h; exact hQ
        | _ => cases h; exact hQ
  | .loop c, s, e, s', Q, h, hQ => by
      unfold runC at h; unfold awC
      classical
      let f := fun s => runC T gl calD cal N fuel c s
      let I : St → Prop := fun s1 => ∃ m s0, s1 = normS N s0 ∧ loopB f N m s0 = some (e, s')
      let μ : St → Nat := fun s1 => if hI : ∃ m s0, s1 = normS N s0 ∧ loopB f N m s0 = some (e, s') then Classical.choose (exists_least (fun m => ∃ s0, s1 = normS N s0 ∧ loopB f N m s0 = some (e, s')) hI) else 0
      refine ⟨I, μ, ⟨normS N s, normS_le N s, fuel, s, rfl, h⟩, fun s1 hI => ?_⟩
      have hs := Classical.choose_spec (exists_least (fun m => ∃ s0, s1 = normS N s0 ∧ loopB f N m s0 = some (e, s')) hI)
      have hμ : μ s1 = Classical.choose (exists_least (fun m => ∃ s0, s1 = normS N s0 ∧ loopB f N m s0 = some (e, s')) hI) := dif_pos hI
      rw [hμ]
      generalize Classical.choose (exists_least (fun m => ∃ s0, s1 = normS N s0 ∧ loopB f N m s0 = some (e, s')) hI) = m at hs
      obtain ⟨⟨s0, rfl, hl⟩, hmin⟩ := hs
      cases m with
      | zero => cases hl
      | succ m =>
        unfold loopB at hl
        rw [norm_eq] at hl
        cases hr : f (normS N s0) with
        | none => rw [hr] at hl; cases hl
        | some p =>
          obtain ⟨e1, s2⟩ := p
          rw [hr] at hl
          refine runC_ok hD hH c _ e1 s2 _ hr ?_
          cases e1 with
          | normal =>
            refine ⟨normS N s2, normS_le N s2, ⟨m, s2, rfl, hl⟩, ?_⟩
            have hI2 : ∃ m s0, normS N s2 = normS N s0 ∧ loopB f N m s0 = some (e, s') := ⟨m, s2, rfl, hl⟩
            have hμ2 : μ (normS N s2) = Classical.choose (exists_least (fun m => ∃ s0, normS N s2 = normS N s0 ∧ loopB f N m s0 = some (e, s')) hI2) := dif_pos hI2
            rw [hμ2]
            exact Nat.lt_succ_of_le ((Classical.choose_spec (exists_least (fun m => ∃ s0, normS N s2 = normS N s0 ∧ loopB f N m s0 = some (e, s')) hI2)).2 m ⟨s2, rfl, hl⟩)
          | _ => cases hl; exact hQ
  | .rangeFunc _ _ _ _, s, e, s', Q, h, hQ => by unfold runC at h; cases h
  | .scope _, s, e, s', Q, h, hQ => by unfold runC at h; cases h
  | .label _, s, e, s', Q, h, hQ => by unfold runC at h; cases h
  | .goto _, s, e, s', Q, h, hQ => by unfold runC at h; cases h
  | .refuse _, s, e, s', Q, h, hQ => by unfold runC at h; cases h
end

/-! functions -/

def resB (T : List (Nat × TyI)) (s : St) : List ResultVar → Option (List AV)
  | [] => some []
  | .tmp t :: rs => (resB T s rs).bind fun vs => some (s.tm t :: vs)
  | .cell a t :: rs => (aLoadB T none t (s.tm a) s).bind fun v => (resB T s rs).bind fun vs => some (v :: vs)
theorem resB_ok (T : List (Nat × TyI)) (s : St) : ∀ rs, Gives (resB T s rs) (resA T s rs)
  | [] => Gives.one _
  | .tmp t :: rs => by
      intro vs h K hK
      unfold resA
      rw [force_eq]
      exact (resB_ok T s rs).map (fun vs => s.tm t :: vs) vs h K hK
  | .cell a t :: rs => (aLoadB_ok T none t (s.tm a) s).bind fun v => (resB_ok T s rs).map fun vs => v :: vs

def fnOk (P : Program) (f : FuncId) (fn : Func) : Bool :=
  match fn.body with
  | some cd => and (and (enters P f) (codeOk P fn.ntmps cd)) (fn.results.toList.all fun r => match r with | .tmp t => Nat.blt t fn.ntmps | .cell a _ => Nat.blt a fn.ntmps)
  | none => false
def FTok (P : Program) (FT : List (Nat × Func)) : Prop := ∀ f fn, look FT f = some fn → P.funcs[f]? = some fn ∧ fnOk P f fn = true
theorem FTok.nil (P : Program) : FTok P [] := fun f fn h => by cases h
theorem FTok.cons {P : Program} {FT : List (Nat × Func)} {f : Nat} {fn : Func} (h1 : P.funcs[f]? = some fn) (h2 : fnOk P f fn = true) (h : FTok P FT) : FTok P ((f, fn) :: FT) := by
  intro g gn hg
  unfold look at hg
  cases hb : Nat.beq g f with
  | true =>
    rw [hb] at hg
    simp only [cond_true, Option.some.injEq] at hg
    subst hg
    rw [Nat.eq_of_beq_eq_true hb]
    exact ⟨h1, h2⟩
  | false => rw [hb] at hg; exact h g gn hg

section
variable (T : List (Nat × TyI)) (gl : List (Nat × AV)) (FT : List (Nat × Func)) (fuel : Nat) (kn : FuncId → List AV → Option AV)

def calP : Cal := fun f vs s => (toPsB s.hp vs).bind fun ds => forceVs ds fun ds => (kn f ds).bind fun r => match plainR r with | true => some (r, s) | false => none
def calS : Cal := fun f vs s => match boxy s.hp vs with
 | true => calP kn f vs s
 | false => (toDAsB s.hp vs).bind fun ds => forceVs ds fun ds => (kn f ds).bind fun r => match plainR r with | true => some (r, s) | false => some (r, ⟨s.tm, frz (keysAs vs) s.hp, s.nx⟩)
def calW : Cal := fun f vs s => match boxy s.hp vs with
 | true => calP kn f vs s
 | false => (toWsB s.hp vs).bind fun ds => forceVs ds fun ds => (kn f ds).bind fun r => match plainR r with | true => some (r, s) | false => some (r, ⟨s.tm, frzW (keysWs s.hp vs) s.hp, s.nx⟩)
/-- the same value -/
def eqBo : Bool → Bool → Bool
  | true, true => true
  | false, false => true
  | _, _ => false
theorem eqBo_ok {a b : Bool} (h : eqBo a b = true) : a = b := by cases a <;> cases b <;> first | rfl | cases h
mutual
def eqV : AV → AV → Bool
  | .int k a, .int k' b => and (eqK k k') (dec (a = b))
  | .bool a, .bool b => eqBo a b
  | .nil, .nil => true
  | .undef, .undef => true
  | .sl r, .sl r' => eqRs r r'
  | .agg c, .agg c' => eqVs c c'
  | .bp k o, .bp k' o' => and (Nat.beq k k') (Nat.beq o o')
  | .ms k o n, .ms k' o' n' => and (Nat.beq k k') (and (Nat.beq o o') (Nat.beq n n'))
  | .fn f c, .fn g c' => and (Nat.beq f g) (eqVs c c')
  | _, _ => false
def eqVs : List AV → List AV → Bool
  | [], [] => true
  | a :: l, b :: m => and (eqV a b) (eqVs l m)
  | _, _ => false
def eqRs : List (List AV) → List (List AV) → Bool
  | [], [] => true
  | a :: l, b :: m => and (eqVs a b) (eqRs l m)
  | _, _ => false
end
mutual
theorem eqV_ok : ∀ (a b : AV), eqV a b = true → a = b
  | .int k a, b, h => by
      cases b <;> simp only [eqV, Bool.and_eq_true] at h <;> first | (cases h; done) | skip
      rw [of_decide_eq_true h.1, dec_ok h.2]
  | .bool a, b, h => by
      cases b <;> simp only [eqV] at h <;> first | (cases h; done) | skip
      rw [eqBo_ok h]
  | .nil, b, h => by cases b <;> simp only [eqV] at h <;> first | rfl | (cases h; done)
  | .undef, b, h => by cases b <;> simp only [eqV] at h <;> first | rfl | (cases h; done)
  | .sl r, b, h => by
      cases b <;> simp only [eqV] at h <;> first | (cases h; done) | skip
      rw [eqRs_ok _ _ h]
  | .agg r, b, h => by
      cases b <;> simp only [eqV] at h <;> first | (cases h; done) | skip
      rw [eqVs_ok _ _ h]
  | .bp k o, b, h => by
      cases b <;> simp only [eqV, Bool.and_eq_true] at h <;> first | (cases h; done) | skip
      rw [Nat.eq_of_beq_eq_true h.1, Nat.eq_of_beq_eq_true h.2]
  | .ms k o n, b, h => by
      cases b <;> simp only [eqV, Bool.and_eq_true] at h <;> first | (cases h; done) | skip
      rw [Nat.eq_of_beq_eq_true h.1, Nat.eq_of_beq_eq_true h.2.1, Nat.eq_of_beq_eq_true h.2.2]
  | .fn f c, b, h => by
      cases b <;> simp only [eqV, Bool.and_eq_true] at h <;> first | (cases h; done) | skip
      rw [Nat.eq_of_beq_eq_true h.1, eqVs_ok _ _ h.2]
  | .str s, b, h => by cases b <;> simp only [eqV] at h <;> cases h
  | .tup s, b, h => by cases b <;> simp only [eqV] at h <;> cases h
  | .ap _ _ _, b, h => by cases b <;> simp only [eqV] at h <;> cases h
  | .er _ _, b, h => by cases b <;> simp only [eqV] at h <;> cases h
  | .yl _, b, h => by cases b <;> simp only [eqV] at h <;> cases h
theorem eqVs_ok : ∀ (l m : List AV), eqVs l m = true → l = m
  | [], m, h => by cases m <;> simp only [eqVs] at h <;> first | rfl | (cases h; done)
  | a :: l, m, h => by
      cases m with
      | nil => simp only [eqVs] at h; cases h
      | cons b m =>
        simp only [eqVs, Bool.and_eq_true] at h
        rw [eqV_ok _ _ h.1, eqVs_ok _ _ h.2]
theorem eqRs_ok : ∀ (l m : List (List AV)), eqRs l m = true → l = m
  | [], m, h => by cases m <;> simp only [eqRs] at h <;> first | rfl | (cases h; done)
  | a :: l, m, h => by
      cases m with
      | nil => simp only [eqRs] at h; cases h
      | cons b m =>
        simp only [eqRs, Bool.and_eq_true] at h
        rw [eqVs_ok _ _ h.1, eqRs_ok _ _ h.2]
end
def eqB : Option Blk → Option Blk → Bool
  | none, _ => true
  | some (.box cs), some (.box ds) => eqVs cs ds
  | some (.own e cs), some (.own e' ds) => and (Nat.beq e e') (eqVs cs ds)
  | some (.arr sz rs lv), some (.arr sz' rs' lv') => and (and (Nat.beq sz.1 sz'.1) (Nat.beq sz.2 sz'.2)) (and (eqRs rs rs') (eqBo lv lv'))
  | some .res, some .res => true
  | _, _ => false
theorem eqB_ok : ∀ {a b : Option Blk}, eqB a b = true → (a = none ∨ a = b) := by
  intro a b h
  unfold eqB at h
  split at h
  · exact .inl rfl
  · right; rw [eqVs_ok _ _ h]
  · right
    simp only [Bool.and_eq_true] at h
    rw [Nat.eq_of_beq_eq_true h.1, eqVs_ok _ _ h.2]
  · right
    rename_i sz rs lv sz' rs' lv'
    simp only [Bool.and_eq_true] at h
    obtain ⟨s1, s2⟩ := sz
    obtain ⟨s3, s4⟩ := sz'
    have e1 : s1 = s3 := Nat.eq_of_beq_eq_true h.1.1
    have e2 : s2 = s4 := Nat.eq_of_beq_eq_true h.1.2
    rw [e1, e2, eqRs_ok _ _ h.2.1, eqBo_ok h.2.2]
  · exact .inr rfl
  · cases h
def hpSame (h h' : Nat → Option Blk) : Nat → Bool
  | 0 => true
  | n + 1 => and (eqB (h n) (h' n)) (hpSame h h' n)
theorem hpSame_ok {h h' : Nat → Option Blk} : ∀ {n : Nat}, hpSame h h' n = true → ∀ k, k < n → (h k = none ∨ h k = h' k)
  | 0, _, k, hk => by omega
  | n + 1, e, k, hk => by
      simp only [hpSame, Bool.and_eq_true] at e
      by_cases c : k = n
      · subst c; exact eqB_ok e.1
      · exact hpSame_ok e.2 k (by omega)
def cleanB (n : Nat) (hp : Nat → Option Blk) : Nat → Bool
  | 0 => true
  | k + 1 => and (blB n (hp k)) (cleanB n hp k)
theorem cleanB_ok {n : Nat} {hp : Nat → Option Blk} : ∀ {k : Nat}, cleanB n hp k = true → clean n hp k
  | 0, _ => trivial
  | k + 1, h => by
      simp only [cleanB, Bool.and_eq_true] at h
      exact ⟨h.1, cleanB_ok h.2⟩
def calE (cal : Cal) : Cal := fun f vs s => match cal f vs s with
  | some (r, s') => guardB (and (bl s.nx r) (and (cleanB s.nx s'.hp s.nx) (hpSame s.hp s'.hp s.nx))) (some (r, s))
  | none => none
def calX (cal : Cal) : Cal := fun f vs s => match ptrs vs with
  | false => calS kn f vs s
  | true => calE cal f vs s
def exitOk : Exit → Bool | .normal => true | .ret => true | _ => false
/-- by contract, or entered -/
def calI : Nat → Cal
  | 0 => calW kn
  | d + 1 => fun f vs s => match calW kn f vs s with
    | some r => some r
    | none => match look FT f with
      | none => none
      | some fn => match fn.body with
        | none => none
        | some cd => guardB (Nat.ble vs.length fn.ntmps) (match runC T gl (calX kn (calI d)) (calI d) fn.ntmps fuel cd ⟨tmOf vs, s.hp, s.nx⟩ with
          | some (e, s') => guardB (exitOk e) ((resB T s' fn.results.toList).bind fun vs => some (resV vs, ⟨s.tm, s'.hp, s'.nx⟩))
          | none => none)

/-- a function of data -/
def runFn (f : FuncId) (ds : List AV) : Option AV :=
  match look FT f with
  | none => none
  | some fn => match fn.body with
    | none => none
    | some cd => guardB (Nat.ble ds.length fn.ntmps) (match runC T gl (calX kn (calI T gl FT fuel kn 3)) (calI T gl FT fuel kn 3) fn.ntmps fuel cd ⟨tmOf ds, fun _ => none, 0⟩ with
      | some (e, s') => guardB (exitOk e) ((resB T s' fn.results.toList).bind fun vs => (toWRB s'.hp (resV vs)).bind fun d => forceV d fun d => some d)
      | none => none)
def runF (base : FuncId → List AV → Option AV) : Nat → FuncId → List AV → Option AV
  | 0 => base
  | n + 1 => fun f ds => match base f ds with
    | some r => some r
    | none => runFn T gl FT fuel (runF base n) f ds

variable {T gl FT fuel kn} {P : Program}

theorem calP_ok (hk : ∀ f ds r, kn f ds = some r → Spec P gl f ds r) (f : FuncId) (vs : List AV) (s : St) {v : AV} {s' : St} (h : calP kn f vs s = some (v, s')) {K : AV → St → Prop} (hK : K v s') :
    toPs s.hp vs fun ds => ∃ r, Spec P gl f ds r ∧ match plainR r with | true => K r s | false => False := by
  unfold calP at h
  simp only [forceVs_eq] at h
  obtain ⟨ds, h1, h2⟩ := Option.bind_eq_some_iff.1 h
  obtain ⟨r, h3, h4⟩ := Option.bind_eq_some_iff.1 h2
  refine toPsB_ok s.hp vs ds h1 _ ⟨r, hk f ds r h3, ?_⟩
  cases hp : plainR r with
  | true => rw [hp] at h4; cases h4; exact hK
  | false => rw [hp] at h4; cases h4
theorem calS_ok (hk : ∀ f ds r, kn f ds = some r → Spec P gl f ds r) (f : FuncId) (vs : List AV) (s : St) : Give2 (calS kn f vs s) (callS P gl (.fn f) vs s) := by
  intro v s' h K hK
  unfold calS at h
  unfold callS
  simp only
  cases hx : boxy s.hp vs with
  | true => rw [hx] at h; exact calP_ok hk f vs s h hK
  | false =>
  rw [hx] at h
  simp only [forceVs_eq] at h
  obtain ⟨ds, h1, h2⟩ := Option.bind_eq_some_iff.1 h
  obtain ⟨r, h3, h4⟩ := Option.bind_eq_some_iff.1 h2
  refine toDAsB_ok s.hp vs ds h1 _ ⟨r, hk f ds r h3, ?_⟩
  cases hp : plainR r with
  | true => rw [hp] at h4; cases h4; exact hK
  | false => rw [hp] at h4; cases h4; exact hK
theorem calW_ok (hk : ∀ f ds r, kn f ds = some r → Spec P gl f ds r) (f : FuncId) (vs : List AV) (s : St) : Give2 (calW kn f vs s) (callW P gl (.fn f) vs s) := by
  intro v s' h K hK
  unfold calW at h
  unfold callW
  simp only
  cases hx : boxy s.hp vs with
  | true => rw [hx] at h; exact calP_ok hk f vs s h hK
  | false =>
  rw [hx] at h
  simp only [forceVs_eq] at h
  obtain ⟨ds, h1, h2⟩ := Option.bind_eq_some_iff.1 h
  obtain ⟨r, h3, h4⟩ := Option.bind_eq_some_iff.1 h2
  refine toWsB_ok s.hp vs ds h1 _ ⟨r, hk f ds r h3, ?_⟩
  cases hp : plainR r with
  | true => rw [hp] at h4; cases h4; exact hK
  | false => rw [hp] at h4; cases h4; exact hK

theorem fnOk_parts {f : FuncId} {fn : Func} (h : fnOk P f fn = true) : ∃ cd, fn.body = some cd ∧ enters P f = true ∧ codeOk P fn.ntmps cd = true ∧
    (fn.results.toList.all fun r => match r with | .tmp t => Nat.blt t fn.ntmps | .cell a _ => Nat.blt a fn.ntmps) = true := by
  unfold fnOk at h
  cases hb : fn.body with
  | none => rw [hb] at h; cases h
  | some cd =>
    rw [hb] at h
    simp only [Bool.and_eq_true] at h
    exact ⟨cd, rfl, h.1.1, h.1.2, h.2⟩
theorem exitOk_or {e : Exit} (h : exitOk e = true) : e = .normal ∨ e = .ret := by
  cases e <;> first | exact .inl rfl | exact .inr rfl | cases h

theorem calX_ok {cal : Cal} {H : Tg → List AV → St → (AV → St → Prop) → Prop} (hk : ∀ f ds r, kn f ds = some r → Spec P gl f ds r) (hc : ∀ f vs s, Give2 (cal f vs s) (H (.fn f) vs s))
    (ht : ∀ f vs s r s', cal f vs s = some (r, s') → ∀ tm, cal f vs ⟨tm, s.hp, s.nx⟩ = some (r, ⟨tm, s'.hp, s'.nx⟩)) (f : FuncId) (vs : List AV) (s : St) : Give2 (calX kn cal f vs s) (callX P gl H (.fn f) vs s) := by
  intro v s' h K hK
  unfold calX at h
  unfold callX
  cases hp : ptrs vs with
  | false => rw [hp] at h; exact calS_ok hk f vs s v s' h K hK
  | true =>
    rw [hp] at h
    simp only at h ⊢
    unfold calE at h
    cases hr : cal f vs s with
    | none => rw [hr] at h; cases h
    | some p =>
      obtain ⟨r, s1⟩ := p
      rw [hr] at h
      obtain ⟨h1, h2⟩ := guardB_some h
      simp only [Bool.and_eq_true] at h1
      cases h2
      exact ⟨v, hK, fun tm => hc f vs _ v _ (ht f vs s v s1 hr tm) _ ⟨rfl, h1.1, cleanB_ok h1.2.1, hpSame_ok h1.2.2⟩⟩
theorem calP_tm (f : FuncId) (vs : List AV) (s : St) (r : AV) (s' : St) (h : calP kn f vs s = some (r, s')) (tm : Nat → AV) : calP kn f vs ⟨tm, s.hp, s.nx⟩ = some (r, ⟨tm, s'.hp, s'.nx⟩) := by
  unfold calP at h ⊢
  simp only [forceVs_eq] at h ⊢
  obtain ⟨ds, h1, h2⟩ := Option.bind_eq_some_iff.1 h
  obtain ⟨q, h3, h4⟩ := Option.bind_eq_some_iff.1 h2
  rw [h1]
  simp only [Option.bind_some, h3]
  cases hp : plainR q with
  | true => rw [hp] at h4; cases h4; rfl
  | false => rw [hp] at h4; cases h4
theorem calW_tm (f : FuncId) (vs : List AV) (s : St) (r : AV) (s' : St) (h : calW kn f vs s = some (r, s')) (tm : Nat → AV) : calW kn f vs ⟨tm, s.hp, s.nx⟩ = some (r, ⟨tm, s'.hp, s'.nx⟩) := by
  unfold calW at h ⊢
  simp only at h ⊢
  cases hx : boxy s.hp vs with
  | true => rw [hx] at h; exact calP_tm f vs s r s' h tm
  | false =>
    rw [hx] at h
    simp only [forceVs_eq] at h ⊢
    obtain ⟨ds, h1, h2⟩ := Option.bind_eq_some_iff.1 h
    obtain ⟨q, h3, h4⟩ := Option.bind_eq_some_iff.1 h2
    rw [h1]
    simp only [Option.bind_some, h3]
    cases hp : plainR q with
    | true => rw [hp] at h4; cases h4; rfl
    | false => rw [hp] at h4; cases h4; rfl
theorem calI_tm : ∀ (d : Nat) (f : FuncId) (vs : List AV) (s : St) (r : AV) (s' : St), calI T gl FT fuel kn d f vs s = some (r, s') → ∀ tm, calI T gl FT fuel kn d f vs ⟨tm, s.hp, s.nx⟩ = some (r, ⟨tm, s'.hp, s'.nx⟩)
  | 0, f, vs, s, r, s', h, tm => calW_tm f vs s r s' h tm
  | d + 1, f, vs, s, r, s', h, tm => by
      unfold calI at h ⊢
      cases hw : calW kn f vs s with
      | some p =>
        obtain ⟨q, s1⟩ := p
        rw [hw] at h; cases h
        rw [calW_tm f vs s _ _ hw tm]
      | none =>
        have hw' : calW kn f vs ⟨tm, s.hp, s.nx⟩ = none := by
          cases hq : calW kn f vs ⟨tm, s.hp, s.nx⟩ with
          | none => rfl
          | some p =>
            obtain ⟨q, s1⟩ := p
            have := calW_tm f vs _ _ _ hq s.tm
            rw [hw] at this; cases this
        rw [hw'] 
        rw [hw] at h
        simp only at h ⊢
        cases hl : look FT f with
        | none => rw [hl] at h; cases h
        | some fn =>
          rw [hl] at h
          simp only at h ⊢
          cases hb : fn.body with
          | none => rw [hb] at h; cases h
          | some cd =>
            rw [hb] at h
            simp only at h ⊢
            obtain ⟨h5, h⟩ := guardB_some h
            rw [h5]
            unfold guardB
            cases hr : runC T gl (calX kn (calI T gl FT fuel kn d)) (calI T gl FT fuel kn d) fn.ntmps fuel cd ⟨tmOf vs, s.hp, s.nx⟩ with
            | none => rw [hr] at h; cases h
            | some p =>
              obtain ⟨e, s1⟩ := p
              rw [hr] at h
              simp only at h ⊢
              obtain ⟨h6, h⟩ := guardB_some h
              rw [h6]
              simp only
              obtain ⟨us, h7, h8⟩ := Option.bind_eq_some_iff.1 h
              cases h8
              rw [h7]
              rfl

theorem calI_ok (hF : FTok P FT) (hk : ∀ f ds r, kn f ds = some r → Spec P gl f ds r) : ∀ (d : Nat) (f : FuncId) (vs : List AV) (s : St), Give2 (calI T gl FT fuel kn d f vs s) (Hn P T gl d (.fn f) vs s)
  | 0, f, vs, s => calW_ok hk f vs s
  | d + 1, f, vs, s => by
      intro v s' h K hK
      unfold calI at h
      unfold Hn
      cases hw : calW kn f vs s with
      | some p => rw [hw] at h; cases h; exact .inl (calW_ok hk f vs s v s' hw K hK)
      | none =>
        rw [hw] at h
        right
        cases hl : look FT f with
        | none => rw [hl] at h; cases h
        | some fn =>
          rw [hl] at h
          obtain ⟨h1, h2⟩ := hF f fn hl
          obtain ⟨cd, g1, g2, g3, g4⟩ := fnOk_parts h2
          simp only [g1] at h
          obtain ⟨h5, h⟩ := guardB_some h
          refine .inl ⟨fn, cd, h1, g1, g2, g3, h5, g4, ?_⟩
          cases hr : runC T gl (calX kn (calI T gl FT fuel kn d)) (calI T gl FT fuel kn d) fn.ntmps fuel cd ⟨tmOf vs, s.hp, s.nx⟩ with
          | none => rw [hr] at h; cases h
          | some p =>
            obtain ⟨e, s1⟩ := p
            rw [hr] at h
            obtain ⟨h6, h⟩ := guardB_some h
            obtain ⟨us, h7, h8⟩ := Option.bind_eq_some_iff.1 h
            cases h8
            exact runC_ok (calX_ok hk (calI_ok hF hk d) (calI_tm d)) (calI_ok hF hk d) cd _ e s1 _ hr ⟨exitOk_or h6, resB_ok T s1 _ us h7 _ hK⟩

theorem runFn_spec (hT : TOk P T) (hmo : P.follows .mixedOrders = true) (hF : FTok P FT) (hk : ∀ f ds r, kn f ds = some r → Spec P gl f ds r) {f : FuncId} {ds : List AV} {r : AV} (h : runFn T gl FT fuel kn f ds = some r) : Spec P gl f ds r := by
  unfold runFn at h
  cases hl : look FT f with
  | none => rw [hl] at h; cases h
  | some fn =>
    rw [hl] at h
    obtain ⟨h1, h2⟩ := hF f fn hl
    obtain ⟨cd, g1, g2, g3, g4⟩ := fnOk_parts h2
    simp only [g1] at h
    obtain ⟨h5, h⟩ := guardB_some h
    refine spec_of hT hmo 3 h1 g1 g2 g3 h5 g4 ?_
    cases hr : runC T gl (calX kn (calI T gl FT fuel kn 3)) (calI T gl FT fuel kn 3) fn.ntmps fuel cd ⟨tmOf ds, fun _ => none, 0⟩ with
    | none => rw [hr] at h; cases h
    | some p =>
      obtain ⟨e, s1⟩ := p
      rw [hr] at h
      obtain ⟨h6, h⟩ := guardB_some h
      obtain ⟨us, h7, h8⟩ := Option.bind_eq_some_iff.1 h
      obtain ⟨d, h9, h10⟩ := Option.bind_eq_some_iff.1 h8
      rw [forceV_eq] at h10
      cases h10
      exact runC_ok (calX_ok hk (calI_ok hF hk 3) (calI_tm 3)) (calI_ok hF hk 3) cd _ e s1 _ hr ⟨exitOk_or h6, resB_ok T s1 _ us h7 _ (toWRB_ok _ _ r h9 _ rfl)⟩

/-- a run is a contract -/
theorem runF_spec (hT : TOk P T) (hmo : P.follows .mixedOrders = true) (hF : FTok P FT) {base : FuncId → List AV → Option AV} (hb : ∀ f ds r, base f ds = some r → Spec P gl f ds r) : ∀ (n : Nat) {f : FuncId} {ds : List AV} {r : AV}, runF T gl FT fuel base n f ds = some r → Spec P gl f ds r
  | 0, f, ds, r, h => hb f ds r h
  | n + 1, f, ds, r, h => by
      unfold runF at h
      cases hbs : base f ds with
      | some r' => rw [hbs] at h; cases h; exact hb f ds _ hbs
      | none =>
        rw [hbs] at h
        exact runFn_spec hT hmo hF (fun f ds r => runF_spec hT hmo hF hb n) h
end
end Ab
