import Derived.Test.YtbcgkonhkoopnaaGreatXHeap
import Derived.Laws.StructEq
import Derived.RangeFuncLeaves
import Derived.RangeFuncRecord
import Derived.OrdersIn
/-!
Soundness of the operations that leave the world alone.
-/
namespace Ab
open Go Go.RowKit

/-- every function may be entered; frames of a round, or of none -/
def Fw (ro : Option Nat) : Fence := { fn := fun _ => True, depth := none, alive := false, round := ro }

theorem sem_run {ro : Option Nat} {ρ : Operand → Value} {o : Oper} {P : Program} {w w' : World} {x : Next} (h : (execOp ρ o).run P w = .ok x w') (hx : ∀ d, x ≠ .defer d) :
    (o.semAt ro ρ).run P w = .ok x w' := by
  rw [Oper.semAt_eq ro ρ o fun c hc => ?_]
  · exact h
  · simp only [execOp, hc, Sem.run_bind, Result.andThen] at h
    split at h
    · simp only [Sem.run_pure, Result.ok.injEq] at h
      exact hx _ h.1.symm
    · cases h

section
variable {c : Ctx} {ro : Option Nat} {N : Nat} {F : Foot} {M : Nat → Option MB} {s : St} {a : Act} {w : World}

theorem Rel.put (h : Rel c N F M s a w) {d : Option Nat} (hd : ∀ t, d = some t → t < N) {av : AV} {v : Value} (hv : RepM w F M av v) :
    Rel c N F M (Ab.put d av s) (a.put d v) w := by
  cases d with
  | none => exact h
  | some d =>
    have hd := hd d rfl
    refine ⟨h.toHR, fun t ht => ?_, h.df, ?_⟩
    · simp only [Ab.put, Act.put]
      by_cases e : t = d
      · subst e
        have : t < a.tmps.size := by rw [h.sz]; exact ht
        simp [this]
        exact hv
      · have e' : Nat.beq t d = false := by
          cases hb : Nat.beq t d
          · rfl
          · exact absurd (Nat.eq_of_beq_eq_true hb) e
        have : d ≠ t := fun h => e h.symm
        simp [e', this]
        simpa using h.tm t ht
    · simp [Act.put, h.sz]

theorem wp_val {P : Program} {o : Oper} {v : Value} {K' : Act → World → Prop} {Q : Exit → Act → World → Prop}
    (hrun : (execOp a.eval o).run P w = .ok (.value v) w) (h : K' (a.put o.dst v) w) : o.wpIn (Fw ro) 0 P a w K' Q := by
  refine ⟨fun _ _ => trivial, ?_⟩; rw [sem_run hrun (by simp)]; exact h

theorem wp_pure {P : Program} {o : Oper} {v : Value} {av : AV} {K : St → Prop} {Q : Exit → Act → World → Prop} (h : Rel c N F M s a w) (hd : ∀ t, o.dst = some t → t < N)
    (hrun : (execOp a.eval o).run P w = .ok (.value v) w) (hv : RepM w F M av v) (hK : K (Ab.put o.dst av s)) : o.wpIn (Fw ro) 0 P a w (Post c N F M w K) Q :=
  wp_val hrun ⟨_, F, M, h.put hd hv, Tr.refl F M w, hK⟩

theorem nth_eq {α : Type} : ∀ (l : List α) (k : Nat), nth l k = l[k]?
  | [], _ => rfl
  | v :: l, 0 => rfl
  | v :: l, k + 1 => by
      show (bif Nat.beq (k + 1) 0 then some v else nth l k) = _
      rw [show Nat.beq (k + 1) 0 = false from rfl, nth_eq l k]; simp
theorem lenL_eq : ∀ l : List AV, lenL l = l.length
  | [] => rfl
  | _ :: l => by simp [lenL, lenL_eq l]
theorem takeL_eq : ∀ (n : Nat) (l : List AV), takeL n l = l.take n
  | 0, l => by simp [takeL]
  | n + 1, [] => rfl
  | n + 1, v :: l => by simp [takeL, takeL_eq n l]
theorem dropL_eq : ∀ (n : Nat) (l : List AV), dropL n l = l.drop n
  | 0, l => rfl
  | n + 1, [] => rfl
  | n + 1, v :: l => by simp [dropL, dropL_eq n l]
theorem appL_eq : ∀ (l m : List AV), appL l m = l ++ m
  | [], m => rfl
  | v :: l, m => by simp [appL, appL_eq l m]

theorem RepML.get : ∀ (l : List AV) (vs : List Value) (k : Nat) (x : AV), RepML w F M l vs → l[k]? = some x → ∃ v, vs[k]? = some v ∧ RepM w F M x v
  | [], _, _, _, _, e => by simp at e
  | x :: l, vs, 0, y, h, e => by
      unfold RepML at h
      obtain ⟨v, vs', rfl, h2, h3⟩ := h
      simp at e; subst e
      exact ⟨v, rfl, h2⟩
  | x :: l, vs, k + 1, y, h, e => by
      unfold RepML at h
      obtain ⟨v, vs', rfl, h2, h3⟩ := h
      obtain ⟨u, h4, h5⟩ := RepML.get l vs' k y h3 (by simpa using e)
      exact ⟨u, by simpa using h4, h5⟩

variable {P : Program} {o : Oper} {K : St → Prop} {Q : Exit → Act → World → Prop}

theorem op_move {x : Operand} (ho : o.op = .move x ∨ o.op = .assign x) (h : Rel c N F M s a w) (hd : ∀ t, o.dst = some t → t < N) (hx : ∀ t, x = .tmp t → t < N)
    (hK : force (ev c.gl s x) fun v => K (Ab.put o.dst v s)) : o.wpIn (Fw ro) 0 P a w (Post c N F M w K) Q := by
  rw [force_eq] at hK
  refine wp_pure h hd ?_ (h.ev x hx) hK
  rcases ho with ho | ho <;> simp [execOp, ho] <;> rfl

theorem eqs_parts {t : TypeId} {i : TyI} {ks : List Bool} (h : tyOf P t = some i) (he : i.eqs = some ks) :
    P.underlying t = some (.struct (P.fieldsOf t)) ∧ P.stoodInHeld t = false ∧ P.eqGuardType P.depth t = false ∧ eqFs P 0 (P.fieldsOf t).toList = true ∧ ((P.fieldsOf t).toList.map fun f => isIntT P f.type) = ks := by
  unfold tyOf at h
  split at h
  · rename_i ti d e1 e2
    split at h
    · rename_i z e3
      cases hq : Nat.beq z.cells.size ti.size with
      | false => rw [hq] at h; cases h
      | true =>
        rw [hq] at h
        simp only [cond_true, Option.some.injEq] at h
        subst h
        cases d with
        | struct fs =>
          have ef : P.fieldsOf t = fs := by unfold Program.fieldsOf; rw [e2]
          simp only at he
          cases hh : eqTy P t fs with
          | false => rw [hh] at he; cases he
          | true =>
            rw [hh] at he
            simp only [Option.some.injEq] at he
            simp only [eqTy, Bool.and_eq_true, Bool.not_eq_true'] at hh
            rw [ef]
            exact ⟨e2, hh.1.1, hh.1.2, hh.2, he⟩
        | _ => cases he
    · cases h
  · cases h

theorem eqFields_run {w : World} {F : Foot} {M : Nat → Option MB} : ∀ (fs : List Field) (j : Nat) (xs ys : List AV) (xv yv : List Value) (K : Bool → Prop), eqFs P j fs = true → RepML w F M xs (xv.drop j) → RepML w F M ys (yv.drop j) → eqAll (fs.map fun f => isIntT P f.type) xs ys K →
    ∃ r, (Op.eqFields 9999 ⟨xv⟩ ⟨yv⟩ fs).run P w = .ok r w ∧ K r
  | [], j, xs, ys, xv, yv, K, h1, h3, h4, h5 => by
      cases xs with
      | cons _ _ => exact h5.elim
      | nil =>
        cases ys with
        | nil => exact ⟨true, rfl, h5⟩
        | cons y _ => exact h5.elim
  | f :: fs, j, xs, ys, xv, yv, K, h1, h3, h4, h5 => by
      rw [List.map_cons] at h5
      cases xs with
      | nil => cases hc : isIntT P f.type <;> rw [hc] at h5 <;> exact h5.elim
      | cons x xs =>
        cases ys with
        | nil => cases hc : isIntT P f.type <;> rw [hc] at h5 <;> cases x <;> exact h5.elim
        | cons y ys =>
          simp only [eqFs, Bool.and_eq_true, Bool.not_eq_true'] at h1
          obtain ⟨⟨e1, e2, e3⟩, e4⟩ := h1
          have e1 := Nat.eq_of_beq_eq_true e1
          have e2 : f.name ≠ "_" := by simpa using e2
          unfold RepML at h3 h4
          obtain ⟨u, us, u1, u2, u3⟩ := h3
          obtain ⟨v, vs, v1, v2, v3⟩ := h4
          have hu : xv[j]? = some u := by have := congrArg (fun l => l[0]?) u1; simpa using this
          have hv : yv[j]? = some v := by have := congrArg (fun l => l[0]?) v1; simpa using this
          have hus : us = xv.drop (j + 1) := by have := congrArg List.tail u1; simpa using this.symm
          have hvs : vs = yv.drop (j + 1) := by have := congrArg List.tail v1; simpa using this.symm
          subst hus hvs
          have step : ∀ (b : Bool), (Op.equalIn 9999 f.type u v).run P w = .ok b w → eqAll (fs.map fun f => isIntT P f.type) xs ys (fun r => K (and b r)) → ∃ r, (Op.eqFields 9999 ⟨xv⟩ ⟨yv⟩ (f :: fs)).run P w = .ok r w ∧ K r := by
            intro b hb hk
            have hp : ∀ (l : List Value) (q : Value), l[j]? = some q → (part f.type ⟨l⟩ f.offset).run P w = .ok q w := by
              intro l q hq
              unfold scal at e3
              cases hd : P.underlying f.type with
              | none => rw [hd] at e3; cases e3
              | some d => cases d <;> simp [hd] at e3 <;> simp [part, isAgg, run_underlying hd, e1, hq]
            simp only [Op.eqFields, if_pos e2, Sem.run_bind, hp xv u hu, hp yv v hv, hb, Result.andThen_ok]
            obtain ⟨r, hr, hr'⟩ := eqFields_run fs (j + 1) xs ys xv yv _ e4 u3 v3 hk
            cases b with
            | false => exact ⟨false, rfl, by simpa using hr'⟩
            | true => exact ⟨r, by simpa using hr, by simpa using hr'⟩
          cases hc : isIntT P f.type with
          | true =>
            rw [hc] at h5
            cases x with
            | int k a =>
              cases y with
              | int k' b =>
                simp only [eqAll] at h5
                cases hk : eqK k k' with
                | false => rw [hk] at h5; exact h5.elim
                | true =>
                  rw [hk] at h5
                  have hk : k = k' := of_decide_eq_true hk
                  subst hk
                  unfold RepM at u2 v2
                  subst u2 v2
                  refine step (a == b) ?_ h5
                  unfold isIntT at hc
                  cases hd : P.underlying f.type with
                  | none => rw [hd] at hc; cases hc
                  | some d =>
                    cases d with
                    | int k0 => exact run_equalIn_int w 9998 f.type k k0 a b hd
                    | _ => rw [hd] at hc; cases hc
              | _ => exact h5.elim
            | _ => exact h5.elim
          | false =>
            rw [hc] at h5
            cases x with
            | bool a =>
              cases y with
              | bool b =>
                simp only [eqAll] at h5
                unfold RepM at u2 v2
                subst u2 v2
                refine step (a == b) ?_ h5
                unfold isIntT at hc
                unfold scal at e3
                cases hd : P.underlying f.type with
                | none => rw [hd] at e3; cases e3
                | some d =>
                  cases d with
                  | bool => exact run_equalIn_bool' w 9998 f.type a b hd
                  | int _ => rw [hd] at hc; cases hc
                  | _ => rw [hd] at e3; cases e3
              | _ => exact h5.elim
            | _ => exact h5.elim

theorem op_bin {op : BinOp} {t t' : TypeId} {x y : Operand} (ho : o.op = .binOp op t x y t') (h : Rel c N F M s a w) (hd : ∀ t, o.dst = some t → t < N) (hx : ∀ t, x = .tmp t → t < N) (hy : ∀ t, y = .tmp t → t < N)
    (hT : TOk P c.T)
    (hK : bin (look c.T t) op (ev c.gl s x) (ev c.gl s y) fun v => K (Ab.put o.dst v s)) : o.wpIn (Fw ro) 0 P a w (Post c N F M w K) Q := by
  have hx' := h.ev x hx
  have hy' := h.ev y hy
  generalize ev c.gl s x = ax at hx' hK
  generalize ev c.gl s y = ay at hy' hK
  cases ax with
  | int k p =>
    cases ay with
    | int k' q =>
      unfold RepM at hx' hy'
      by_cases hsh : op = .shl ∨ op = .shr
      · rcases hsh with rfl | rfl
        · simp only [bin] at hK
          refine wp_pure h hd (v := .int k (k.wrap (p * 2 ^ (min q.toNat k.bits)))) ?_ (by unfold RepM; rfl) hK.2
          simp [execOp, ho, hx', hy', Go.binOp, Op.shift, eqGuard, Int.not_lt.2 hK.1]
        · simp only [bin] at hK
          refine wp_pure h hd (v := .int k (p.fdiv (2 ^ (min q.toNat k.bits)))) ?_ (by unfold RepM; rfl) hK.2
          simp [execOp, ho, hx', hy', Go.binOp, Op.shift, eqGuard, Int.not_lt.2 hK.1]
      · by_cases hk : k = k'
        · subst hk
          have e1 : eqK k k = true := by simp [eqK]
          cases op
          all_goals simp only [bin, e1] at hK
          all_goals first
            | exact hK.elim
            | exact absurd rfl (fun e => hsh (by first | exact .inl e | exact .inr e))
            | (refine wp_pure h hd ?_ (by unfold RepM; rfl) hK; simp [execOp, ho, hx', hy', Go.binOp, Op.intArith, Op.intCmp, eqGuard]; done)
            | (refine wp_pure h hd ?_ (by unfold RepM; rfl) hK.2; simp [execOp, ho, hx', hy', Go.binOp, Op.intDiv, eqGuard, hK.1])
            | (refine wp_pure h hd ?_ (by unfold RepM; rfl) hK; simp [execOp, ho, hx', hy', Go.binOp, eqGuard, intBits_and, intBits_or, intBits_xor, intBits_andNot]; done)
        · have e1 : eqK k k' = false := by simp [eqK, hk]
          cases op <;> simp only [bin, e1] at hK
          all_goals first | exact hK.elim | exact absurd rfl (fun e => hsh (by first | exact .inl e | exact .inr e))
    | _ => simp [bin] at hK
  | bool p =>
    cases ay with
    | bool q =>
      unfold RepM at hx' hy'
      simp only [bin] at hK
      cases ht : look c.T t with
      | none => simp [ht] at hK
      | some i =>
        simp only [ht] at hK
        obtain ⟨_, d, _, _, hu, _, _, _, _, _, _, _, _, _, _, _, hbo, _⟩ := hT.parts ht
        cases hb : i.bo with
        | false => simp [hb] at hK
        | true =>
          simp only [hb] at hK
          rw [hbo hb] at hu
          cases op
          all_goals simp only at hK
          all_goals first
            | exact hK.elim
            | (refine wp_pure h hd ?_ (by unfold RepM; rfl) hK; simp [execOp, ho, hx', hy', Go.binOp, eqGuard, run_equal_bool _ _ _ _ hu, Result.andThen]; done)
            | (refine wp_pure h hd ?_ (by unfold RepM; rfl) hK; simp [execOp, ho, hx', hy', Go.binOp, eqGuard, run_equal_bool _ _ _ _ hu, Result.andThen]; cases p <;> cases q <;> rfl)
    | _ => simp [bin] at hK
  | agg xs =>
    cases ay with
    | agg ys =>
      unfold RepM at hx' hy'
      obtain ⟨xv, hx1, hx2⟩ := hx'
      obtain ⟨yv, hy1, hy2⟩ := hy'
      simp only [bin] at hK
      cases ht : look c.T t with
      | none => simp [ht] at hK
      | some i =>
        simp only [ht] at hK
        cases hb : i.eqs with
        | none => simp [hb] at hK
        | some ks =>
          simp only [hb] at hK
          obtain ⟨hu, hst, heg, hfs, rfl⟩ := eqs_parts (hT t i ht) hb
          have key : ∀ (K' : Bool → Prop), eqAll ((P.fieldsOf t).toList.map fun f => isIntT P f.type) xs ys K' → ∃ r, (Op.equalIn 10000 t (.agg ⟨xv⟩) (.agg ⟨yv⟩)).run P w = .ok r w ∧ K' r := by
            intro K' h1
            rw [show (10000 : Nat) = 9999 + 1 from rfl, run_equalIn_agg w 9999 t ⟨xv⟩ ⟨yv⟩ hu hst]
            exact eqFields_run _ 0 xs ys xv yv K' hfs (by simpa using hx2) (by simpa using hy2) h1
          cases op
          all_goals simp only at hK
          all_goals first
            | exact hK.elim
            | (obtain ⟨r, h1, h2⟩ := key _ hK
               refine wp_pure h hd ?_ (by unfold RepM; rfl) h2
               simp [execOp, ho, hx1, hy1, run_eqGuard_agg w _ t x y _ _ heg, run_eql_struct, run_neq_struct, h1, Result.andThen]; done)
    | _ => simp [bin] at hK
  | _ => simp [bin] at hK

theorem op_un {op : UnOp} {t : TypeId} {x : Operand} (ho : o.op = .unOp op t x) (h : Rel c N F M s a w) (hd : ∀ t, o.dst = some t → t < N) (hx : ∀ t, x = .tmp t → t < N)
    (hK : un op (ev c.gl s x) fun v => K (Ab.put o.dst v s)) : o.wpIn (Fw ro) 0 P a w (Post c N F M w K) Q := by
  have hx' := h.ev x hx
  generalize ev c.gl s x = ax at hx' hK
  cases ax <;> cases op <;> simp only [un] at hK
  all_goals
    first
      | exact hK.elim
      | (unfold RepM at hx'
         refine wp_pure h hd ?_ (by unfold RepM; rfl) hK
         simp [execOp, ho, hx', Op.unary, Op.intArith])

theorem op_convert {t u : TypeId} {x : Operand} (ho : o.op = .convert t u x) (hT : TOk P c.T) (hs : (P.underlying t).isSome = true) (h : Rel c N F M s a w) (hd : ∀ t, o.dst = some t → t < N) (hx : ∀ t, x = .tmp t → t < N)
    (hK : match (look c.T u).bind fun i => i.k with
      | some k => match ev c.gl s x with | .int _ n => K (Ab.put o.dst (.int k (k.wrap n)) s) | _ => False
      | none => False) : o.wpIn (Fw ro) 0 P a w (Post c N F M w K) Q := by
  have hx' := h.ev x hx
  cases hu : (look c.T u).bind fun i => i.k with
  | none => rw [hu] at hK; exact hK.elim
  | some k =>
    rw [hu] at hK
    generalize ev c.gl s x = ax at hx' hK
    cases ax with
    | int k' n =>
      simp only at hK
      unfold RepM at hx'
      cases hl : look c.T u with
      | none => simp [hl] at hu
      | some i =>
        simp [hl] at hu
        obtain ⟨_, d, _, _, hd', _, _, _, _, _, _, _, _, _, _, hk, _⟩ := hT.parts hl
        rw [hk k hu] at hd'
        obtain ⟨ds, hds⟩ := Option.isSome_iff_exists.1 hs
        refine wp_pure h hd ?_ (by unfold RepM; rfl) hK
        simp [execOp, ho, hx', Go.convert, run_underlying hds, run_underlying hd', Conv.intToInt]
    | _ => exact hK.elim

theorem op_extract {x : Operand} {i : Nat} (ho : o.op = .extract x i) (h : Rel c N F M s a w) (hd : ∀ t, o.dst = some t → t < N) (hx : ∀ t, x = .tmp t → t < N)
    (hK : match ev c.gl s x with | .tup vs => (match nth vs i with | some v => force v fun v => K (Ab.put o.dst v s) | none => False) | _ => False) : o.wpIn (Fw ro) 0 P a w (Post c N F M w K) Q := by
  have hx' := h.ev x hx
  generalize ev c.gl s x = ax at hx' hK
  cases ax with
  | tup vs =>
    simp only [nth_eq] at hK
    cases hi : vs[i]? with
    | none => rw [hi] at hK; exact hK.elim
    | some v =>
      rw [hi] at hK
      simp only [force_eq] at hK
      unfold RepM at hx'
      obtain ⟨ws, h1, h2⟩ := hx'
      obtain ⟨u, h3, h4⟩ := RepML.get vs ws i v h2 hi
      refine wp_pure h hd ?_ h4 hK
      simp [execOp, ho, h1, Instr.extract, h3]
  | _ => exact hK.elim

theorem op_nilCheck {x : Operand} (ho : o.op = .nilCheck x) (h : Rel c N F M s a w) (hd : ∀ t, o.dst = some t → t < N) (hx : ∀ t, x = .tmp t → t < N)
    (hK : match ev c.gl s x with | .bp k i => K (Ab.put o.dst (.bp k i) s) | .ap k r i => K (Ab.put o.dst (.ap k r i) s) | .er row i => K (Ab.put o.dst (.er row i) s) | .fn f c => K (Ab.put o.dst (.fn f c) s) | _ => False) :
    o.wpIn (Fw ro) 0 P a w (Post c N F M w K) Q := by
  have hx' := h.ev x hx
  generalize ev c.gl s x = ax at hx' hK
  cases ax with
  | bp k i =>
    have h1 := hx'
    unfold RepM at h1
    obtain ⟨m, _, h2⟩ := h1
    exact wp_pure h hd (by simp [execOp, ho, h2]) (h2 ▸ hx') hK
  | ap k r i =>
    have h1 := hx'
    unfold RepM at h1
    obtain ⟨m, _, h2⟩ := h1
    exact wp_pure h hd (by simp [execOp, ho, h2]) (h2 ▸ hx') hK
  | er row i =>
    have h1 := hx'
    unfold RepM at h1
    obtain ⟨b, off, h2, _⟩ := h1
    exact wp_pure h hd (by simp [execOp, ho, h2]) (h2 ▸ hx') hK
  | fn f cap =>
    have h1 := hx'
    unfold RepM at h1
    obtain ⟨vs, h2, _⟩ := h1
    exact wp_pure h hd (by simp [execOp, ho, h2]) (h2 ▸ hx') hK
  | _ => exact hK.elim

theorem Rel.evs (h : Rel c N F M s a w) : ∀ (xs : List Operand), (∀ x ∈ xs, ∀ t, x = .tmp t → t < N) → RepML w F M (evs c.gl s xs) (xs.map a.eval)
  | [], _ => by unfold Ab.evs RepML; rfl
  | x :: xs, hx => by
      unfold Ab.evs RepML
      exact ⟨_, _, rfl, h.ev x (hx x (by simp)), Rel.evs h xs fun y hy => hx y (by simp [hy])⟩

theorem op_makeFunc {f : FuncId} {cap : Array Operand} (ho : o.op = .makeFunc (.func f) #[] cap) (h : Rel c N F M s a w) (hd : ∀ t, o.dst = some t → t < N) (hx : ∀ x ∈ cap.toList, ∀ t, x = .tmp t → t < N)
    (hK : forceL (evs c.gl s cap.toList) fun cs => K (Ab.put o.dst (.fn f cs) s)) : o.wpIn (Fw ro) 0 P a w (Post c N F M w K) Q := by
  rw [forceL_eq] at hK
  refine wp_pure h hd (v := .func (.func f) #[] ⟨cap.toList.map a.eval⟩) ?_ ?_ hK
  · simp [execOp, ho, Instr.makeFunc]; exact Array.ext' (by simp)
  · unfold RepM; exact ⟨_, rfl, h.evs _ hx⟩

theorem op_pick {t x y : Operand} (ho : o.op = .pick t x y) (h : Rel c N F M s a w) (hd : ∀ t, o.dst = some t → t < N) (ht : ∀ u, t = .tmp u → u < N) (hx : ∀ t, x = .tmp t → t < N) (hy : ∀ t, y = .tmp t → t < N)
    (hK : match ev c.gl s t with | .bool t => pickA t (ev c.gl s x) (ev c.gl s y) fun v => K (Ab.put o.dst v s) | _ => False) : o.wpIn (Fw ro) 0 P a w (Post c N F M w K) Q := by
  have ht' := h.ev t ht
  have hx' := h.ev x hx
  have hy' := h.ev y hy
  generalize ev c.gl s t = at' at ht' hK
  generalize ev c.gl s x = ax at hx' hK
  generalize ev c.gl s y = ay at hy' hK
  cases at' with
  | bool b =>
    unfold RepM at ht'
    have key : ∃ av, RepM w F M av (if b = true then a.eval x else a.eval y) ∧ K (Ab.put o.dst av s) := by
      have gen : ((b = true → force ax fun v => K (Ab.put o.dst v s)) ∧ (b = false → force ay fun v => K (Ab.put o.dst v s))) → ∃ av, RepM w F M av (if b = true then a.eval x else a.eval y) ∧ K (Ab.put o.dst av s) := by
        rintro ⟨h1, h2⟩
        cases b with
        | true => exact ⟨ax, by simpa using hx', by simpa [force_eq] using h1 rfl⟩
        | false => exact ⟨ay, by simpa using hy', by simpa [force_eq] using h2 rfl⟩
      cases ax with
      | bool p =>
        cases ay with
        | bool q =>
          simp only [pickA] at hK
          refine ⟨_, ?_, hK⟩
          unfold RepM at hx' hy' ⊢
          cases b <;> simp [hx', hy']
        | _ => exact gen (by simpa only [pickA, force] using hK)
      | _ => exact gen (by simpa only [pickA] using hK)
    obtain ⟨av, h1, h2⟩ := key
    refine wp_pure h hd ?_ h1 h2
    simp [execOp, ho, ht', asBool]
  | _ => exact hK.elim

theorem op_minmax {mx : Bool} {args : Array Operand} {ts : Array TypeId} (ho : o.op = .call { callee := .builtin (if mx then .max else .min), args := args, argTypes := ts }) (h : Rel c N F M s a w) (hd : ∀ t, o.dst = some t → t < N)
    (hx : ∀ x ∈ args.toList, ∀ t, x = .tmp t → t < N) (hK : aMinMax mx (evs c.gl s args.toList) fun v => K (Ab.put o.dst v s)) : o.wpIn (Fw ro) 0 P a w (Post c N F M w K) Q := by
  have he := h.evs args.toList hx
  generalize evs c.gl s args.toList = vs at he hK
  unfold aMinMax at hK
  split at hK
  · rename_i k p k' q
    unfold RepML at he
    obtain ⟨v, vs', h1, h2, h3⟩ := he
    unfold RepML at h3
    obtain ⟨v', vs'', h4, h5, h6⟩ := h3
    unfold RepML at h6
    unfold RepM at h2 h5
    subst h6 h4 h2 h5
    have e2 : args.map a.eval = #[.int k p, .int k' q] := by
      apply Array.ext'
      simpa using h1
    cases mx with
    | true =>
      simp only at hK
      refine wp_pure h hd ?_ (by unfold RepM; rfl) hK
      simp [execOp, ho, resolve, invoke, builtin, e2, Builtin.max_, Builtin.max2]
    | false =>
      simp only at hK
      refine wp_pure h hd ?_ (by unfold RepM; rfl) hK
      simp [execOp, ho, resolve, invoke, builtin, e2, Builtin.min_, Builtin.min2]
  · rename_i k p k' q k'' q'
    unfold RepML at he
    obtain ⟨v, vs', h1, h2, h3⟩ := he
    unfold RepML at h3
    obtain ⟨v', vs'', h4, h5, h6⟩ := h3
    unfold RepML at h6
    obtain ⟨v'', vs''', h7, h8, h9⟩ := h6
    unfold RepML at h9
    unfold RepM at h2 h5 h8
    subst h9 h7 h4 h2 h5 h8
    have e2 : args.map a.eval = #[.int k p, .int k' q, .int k'' q'] := by
      apply Array.ext'
      simpa using h1
    cases mx with
    | true =>
      simp only [mm2] at hK
      refine wp_pure h hd ?_ (by unfold RepM; rfl) hK
      simp [execOp, ho, resolve, invoke, builtin, e2, Builtin.max_, Builtin.max2]
      rfl
    | false =>
      simp only [mm2] at hK
      refine wp_pure h hd ?_ (by unfold RepM; rfl) hK
      simp [execOp, ho, resolve, invoke, builtin, e2, Builtin.min_, Builtin.min2]
      rfl
  · exact hK.elim

theorem op_len {x : Operand} {args : Array Operand} {ts : Array TypeId} {t e : TypeId} (ha : args = #[x]) (hts : ts = #[t]) (ho : o.op = .call { callee := .builtin .len, args := args, argTypes := ts }) (hT : TOk P c.T) (he : (look c.T t).bind (fun i => i.sl) = some e)
    (h : Rel c N F M s a w) (hd : ∀ t, o.dst = some t → t < N) (hx : ∀ t, x = .tmp t → t < N) (hs : ∀ q, ev c.gl s x ≠ .str q)
    (hK : lenOf (ev c.gl s x) fun n => K (Ab.put o.dst (.int .i64 n) s)) : o.wpIn (Fw ro) 0 P a w (Post c N F M w K) Q := by
  have hx' := h.ev x hx
  generalize ev c.gl s x = ax at hx' hK hs
  obtain ⟨i, hi, hsl⟩ : ∃ i, look c.T t = some i ∧ i.sl = some e := by
    cases hl : look c.T t with
    | none => simp [hl] at he
    | some i => exact ⟨i, rfl, by simpa [hl] using he⟩
  obtain ⟨_, d, _, _, hu, _, _, _, _, h1, _⟩ := hT.parts hi
  rw [h1 e hsl] at hu
  have key : ∀ (p : Option Addr) (n cp : Nat), a.eval x = .slice p n cp → K (Ab.put o.dst (.int .i64 n) s) → o.wpIn (Fw ro) 0 P a w (Post c N F M w K) Q := by
    intro p n cp hv hK
    refine wp_pure h hd ?_ (by unfold RepM; rfl) hK
    simp [execOp, ho, ha, hts, resolve, invoke, builtin, hv, Builtin.len_, run_underlying hu, goInt]
  cases ax with
  | sl rows =>
    unfold RepM RepD at hx'
    obtain ⟨p, cp, h1, _⟩ := hx'
    exact key _ _ _ h1 hK
  | nil => unfold RepM at hx'; exact key _ _ _ hx' hK
  | ms k off n =>
    unfold RepM at hx'
    obtain ⟨m, _, ⟨h1, _⟩ | ⟨rfl, _, p, cp, h1, _⟩⟩ := hx'
    · exact key _ _ _ h1 hK
    · exact key _ _ _ h1 hK
  | str q => exact absurd rfl (hs q)
  | _ => exact hK.elim
end
end Ab
