import Derived.Test.YtbcgkonhkoopnaaGreatXFT
import Derived.Test.YtbcgkonhkoopnaaGreatRows
import Derived.Test.YtbcgkonhkoopnaaGreatChecked
import Derived.WalkKit
import Derived.ProofKit
import Derived.OpenShut
import Derived.ChangeSame
import Derived.ChangeVars
import Derived.JoinedOf
import Derived.Handed
/-!
From a contract of a law's function to the given statement: seat Tryz.
-/
namespace Go.Proofs.YtbcgkonhkoopnaaGreat
open Go.ChangeShapes Go.WideShapes Go.ChangeAt Go.RowKit Ab

theorem own : ownKnob Tryz.prog.godebug = none := by kernel_rfl

/-- the fields are ints, one after the other -/
def intFields (P : Program) : Nat → List Field → Bool
  | _, [] => true
  | i, f :: fs => (f.offset == i) && ((P.cellsOf f.type == 1) && ((match P.underlying f.type with | some (.int .i64) => true | _ => false) && intFields P (i + 1) fs))
theorem intFields_at {P : Program} : ∀ {fs : List Field} {k : Nat}, intFields P k fs = true → ∀ (i : Nat) (f : Field), fs[i]? = some f → f.offset = k + i ∧ P.cellsOf f.type = 1 ∧ P.underlying f.type = some (.int .i64)
  | [], _, _, i, f, hf => by cases hf
  | g :: fs, k, h, i, f, hf => by
      simp only [intFields, Bool.and_eq_true, beq_iff_eq] at h
      obtain ⟨h1, h2, h3, h4⟩ := h
      cases i with
      | zero =>
        simp only [List.getElem?_cons_zero, Option.some.injEq] at hf
        subst hf
        refine ⟨h1, h2, ?_⟩
        split at h3
        · assumption
        · cases h3
      | succ i =>
        simp only [List.getElem?_cons_succ] at hf
        obtain ⟨e1, e2⟩ := intFields_at h4 i f hf
        exact ⟨by omega, e2⟩

section
variable {H : Type} {enc : TypeId × Value → H} {P : Program} {w : World} {base : Nat} {spare : Nat → Bool} {held : Bool}
theorem trods_ints : ∀ {fs : List Field} {k : Nat} {cs : List Value} {xs : List (DataW H × List MemPlace)} {n : Nat}, intFields P k fs = true → cs.length = k + fs.length → xs.length = fs.length →
    (∀ (i : Nat) (f : Field), fs[i]? = some f → DataW.trod enc P w base spare held n f.type ((cs.drop f.offset).take (P.cellsOf f.type)) = xs[i]?) →
    ∃ zs : List Int, zs.length = fs.length ∧ cs.drop k = zs.map (Value.int .i64) ∧ xs = zs.map (fun z => (.lit (.int .i64 z), [])) ∧ ∀ z ∈ zs, (Lit.int .i64 z).wf = true
  | [], k, cs, xs, n, _, hc, hx, _ => ⟨[], rfl, by simp at hc; simp [hc], List.length_eq_zero_iff.1 (by simpa using hx), by simp⟩
  | g :: fs, k, cs, x :: xs, n, h, hc, hx, hf => by
      have h0 := h
      simp only [intFields, Bool.and_eq_true, beq_iff_eq] at h
      obtain ⟨h1, h2, h3, h4⟩ := h
      obtain ⟨_, _, h5⟩ := intFields_at h0 0 g rfl
      have t := hf 0 g rfl
      rw [h1, h2] at t
      simp only [List.getElem?_cons_zero] at t
      obtain ⟨z, z1, z2, z3⟩ := DataW.trod_int h5 t
      obtain ⟨zs, k0, k1, k2, k3⟩ := trods_ints (k := k + 1) (cs := cs) (xs := xs) (n := n) h4 (by simp at hc; omega) (by simpa using hx) (fun i f hi => by
        have := hf (i + 1) f hi
        simpa using this)
      have hk : k < cs.length := by simp at hc; omega
      refine ⟨z :: zs, by simp [k0], ?_, by rw [k2, z2]; rfl, ?_⟩
      · rw [List.drop_eq_getElem_cons hk] at z1 ⊢
        simp only [List.take_succ_cons, List.take_zero, List.cons.injEq, and_true] at z1
        rw [z1, k1]
        rfl
      · intro y hy
        rcases List.mem_cons.1 hy with e | hy
        · rw [e]; exact z3
        · exact k3 y hy

/-- a struct of ints, by value -/
theorem open_intStruct {r : Reach} {b0 : Nat} {t : TypeId} {fs : Array Field} {v : Value} {d : DataW H} {p : List MemPlace} (hs : P.underlying t = some (.struct fs)) (hok : intFields P 0 fs.toList = true) (hC : P.cellsOf t = fs.size)
    (hv : Value.okWide P w r b0 t v) (h : DataW.Trod enc P w base spare held t v d p) :
    ∃ zs : List Int, zs.length = fs.size ∧ v = .agg ⟨zs.map (Value.int .i64)⟩ ∧ d = .agg (zs.map fun z => .lit (.int .i64 z)) ∧ p = [] ∧ ∀ z ∈ zs, (Lit.int .i64 z).wf = true := by
  obtain ⟨cs, rfl, hsz⟩ := okWide_struct hs hv
  obtain ⟨fuel, hf⟩ := h
  obtain ⟨xs, n, _, hx, hl, hlen, hg⟩ := DataW.trod_struct hs hf
  obtain ⟨l⟩ := cs
  obtain ⟨zs, z0, z1, z2, z3⟩ := trods_ints (cs := l) (k := 0) hok (by simpa [hC] using hsz) (by simpa using hlen) (fun i f hi => hg i f (by simpa using hi))
  simp only [Prod.mk.injEq] at hx
  refine ⟨zs, by simpa using z0, ?_, ?_, ?_, z3⟩
  · rw [List.drop_zero] at z1; rw [z1]
  · rw [hx.1, z2]; simp
  · rw [hx.2, z2]; simp
theorem mapM_ints : ∀ {fs : List Field} {k n : Nat} {cs : List Value} {zs : List Int}, intFields P k fs = true → zs.length = fs.length → cs.drop k = zs.map (Value.int .i64) → (∀ z ∈ zs, (Lit.int .i64 z).wf = true) →
    fs.mapM (fun f => DataW.trod enc P w base spare held (n + 1) f.type ((cs.drop f.offset).take (P.cellsOf f.type))) = some (zs.map fun z => (.lit (.int .i64 z), []))
  | [], k, n, cs, [], _, _, _, _ => rfl
  | g :: fs, k, n, cs, z :: zs, h, hz, hc, hw => by
      have h0 := h
      simp only [intFields, Bool.and_eq_true, beq_iff_eq] at h
      obtain ⟨h1, h2, h3, h4⟩ := h
      obtain ⟨_, _, h5⟩ := intFields_at h0 0 g rfl
      rw [List.mapM_cons, mapM_ints (k := k + 1) (n := n) (cs := cs) (zs := zs) h4 (by simpa using hz) (by
        rw [show cs.drop (k + 1) = (cs.drop k).drop 1 by rw [List.drop_drop], hc]; rfl) (fun y hy => hw y (List.mem_cons_of_mem _ hy)), h1, h2, hc]
      simp only [List.map_cons, List.take_succ_cons, List.take_zero]
      rw [trod_int_mk n h5 (hw z (by simp))]
      rfl
theorem shut_intStruct {t : TypeId} {fs : Array Field} {zs : List Int} (hs : P.underlying t = some (.struct fs)) (hok : intFields P 0 fs.toList = true) (hC : P.cellsOf t = fs.size) (hz : zs.length = fs.size) (hw : ∀ z ∈ zs, (Lit.int .i64 z).wf = true) :
    DataW.Trod enc P w base spare held t (.agg ⟨zs.map (Value.int .i64)⟩) (.agg (zs.map fun z => .lit (.int .i64 z))) [] := by
  refine ⟨2, ?_⟩
  have := trod_struct_mk (enc := enc) (w := w) (base := base) (spare := spare) (held := held) (n := 1) (cs := zs.map (Value.int .i64)) (xs := zs.map fun z => (.lit (.int .i64 z), [])) hs (by simp [hC, hz]) (mapM_ints (k := 0) hok (by simpa using hz) (by simp) hw)
  have e1 : (Value.agg ⟨zs.map (Value.int .i64)⟩).cells.toList = zs.map (Value.int .i64) := rfl
  rw [e1, this]
  simp
end
/-- the like, as the abstract machine reads it -/
theorem rep_intStruct {w : World} {F : Foot} (zs : List Int) : RepD w F (.agg (zs.map (AV.int .i64))) (.agg ⟨zs.map (Value.int .i64)⟩) := by
  unfold RepD
  refine ⟨_, rfl, ?_⟩
  induction zs with
  | nil => simp [RepDL]
  | cons z zs ih =>
    simp only [List.map_cons]
    unfold RepDL
    refine ⟨_, _, rfl, by unfold RepD; rfl, ih⟩

theorem five_of {zs : List Int} (h : zs.length = 5) : ∃ a b c d e, zs = [a, b, c, d, e] := by
  match zs, h with
  | [a, b, c, d, e], _ => exact ⟨a, b, c, d, e, rfl⟩

theorem post_of_below {H : Type} {enc : TypeId × Value → H} {P : Program} {f : Func} {s : ChangeSpec} {apart fresh handsOn again : Bool} {W W' : World} {args : Array Value} {v : Value} {ds gs : List (DataW H)} {before pa pv : List MemPlace}
    (hW : DataW.Whole enc P f.params.toList s.vars apart W args.toList ds gs before)
    (hres : ∀ (b : Nat) (sp : Nat → Bool) (hd : Bool), DataW.TrodAll enc P W' b sp hd f.resultTypes.toList (v.resultList f.resultTypes.size) (s.fn H (ds ++ gs)).results [])
    (hargs : ∀ sp : Nat → Bool, (∀ p ∈ before, sp p.block = true) → DataW.TrodAll enc P W' 0 sp true f.params.toList args.toList (s.fn H (ds ++ gs)).args pa)
    (hvars : ∀ sp : Nat → Bool, (∀ p ∈ before, sp p.block = true) → DataW.TrodVars enc P W' sp s.vars (s.fn H (ds ++ gs)).vars pv)
    (hps : before = pa ++ pv) (hk : Below W.heap.size W W')
    (hok : ∀ (j : Nat) (t : TypeId) (r : Value), f.resultTypes[j]? = some t → (v.resultList f.resultTypes.size)[j]? = some r → Value.okWide P W' .any 0 t r) :
    s.post enc P f apart fresh handsOn again W args v W' := by
  have hold : ∀ p ∈ before, (fun b => decide (b < W.heap.size)) p.block = true := fun p hp => by simpa using hW.lt p hp
  refine ⟨ds, gs, before, [], pa, pv, hW, hres _ _ _, hargs _ hold, hvars _ hold, World.keptBut_mono (fun p hp => ⟨hp, ?_⟩) (hk.frame (· ∈ before)), fun _ => ?_⟩
  · rw [hps, List.mem_append] at hp
    exact Or.inr hp
  · have hlt := hW.lt
    obtain ⟨_, _, _, _, _, hz, hn⟩ := hW
    refine ⟨hok, _, _, ([] ++ pa) ++ pv, ⟨[] ++ pa, pv, trodAll_append (hargs _ (fun _ _ => rfl)) (hres _ _ _), hvars _ (fun _ _ => rfl), rfl, ?_, ?_⟩, ?_⟩
    · intro b off hp
      have hp' : MemPlace.cell b off ∈ before := by rw [hps]; simpa using hp
      have := hlt _ hp'
      rw [hk.frozen (p := ⟨b, off, none⟩) this]
      exact hz b off hp'
    · intro ha
      have := hn ha
      rw [hps] at this
      simpa using this
    · intro p hp _
      rw [hps]
      simpa using hp

end Go.Proofs.YtbcgkonhkoopnaaGreat
