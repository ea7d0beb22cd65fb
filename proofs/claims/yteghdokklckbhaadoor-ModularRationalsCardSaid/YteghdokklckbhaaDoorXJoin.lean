import Derived.Test.YteghdokklckbhaaDoorXTy
import Derived.Test.YteghdokklckbhaaDoorCards
import Derived.Test.YteghdokklckbhaaDoorTie
import Derived.WalkKit
import Derived.ProofKit
import Derived.OpenShut
import Derived.ChangeSame
import Derived.ChangeVars
import Derived.LaidLaws
import Derived.LaidHandle
import Derived.LaidMore
import Derived.Stop.Joined
import Derived.SevenTiedAt
/-!
From a contract of a law's function to the given statement.
-/
namespace Go.Proofs.YteghdokklckbhaaDoor
open Go.ChangeShapes Go.WideShapes Go.ChangeAt Go.RowKit Ab

theorem own : ownKnob Tryd.prog.godebug = none := by kernel_rfl
theorem gBases : Tryd.prog.globalNamed "straightedge/modular.bases" = some 0 := by kernel_rfl
theorem tBases : (Tryd.prog.globals[0]?).map (·.type) = some 60 := by kernel_rfl

def laid1 : List (String × DataW Unit) := [("straightedge/modular.bases", Rows.laid_straightedge_modular_bases)]

/-- The door's own heap meets the condition: closed facts. -/
theorem door_met (os : Os) (args : Array Value) : laidMetH Tryd.prog laid1 ((World.doorLaid Tryd.prog 400 os).forCall (fun _ _ => 0) ⟨#[], args, []⟩).memory :=
  laidMetH_of_parts3 (fuel := 8) (laidMet_of_run' 8 (by kernel_rfl) (by kernel_rfl)) (by kernel_rfl) (by kernel_rfl)

/-- what the listed variable holds, as the abstract machine reads it -/
def glB : List (Nat × AV) := [(0, .er [.int .i64 2, .int .i64 3, .int .i64 5, .int .i64 7] 0)]

theorem four_cells {P : Program} {W : World} {m1 : Nat} {l : List Value} {xs : List (DataW Unit × List MemPlace)} (c3 : P.cellsOf 3 = 1) (u3 : P.underlying 3 = some (.int .i64))
    (hel : ∀ i, i < 4 → DataW.trod (fun _ => ()) P W 0 (fun _ => true) false m1 3 ((l.drop (i * P.cellsOf 3)).take (P.cellsOf 3)) = xs[i]?) (hlen : l.length = 4) (hn : xs.length = 4)
    (hx : xs.map (·.1) = [.lit (.int .i64 2), .lit (.int .i64 3), .lit (.int .i64 5), .lit (.int .i64 7)]) : l = [.int .i64 2, .int .i64 3, .int .i64 5, .int .i64 7] := by
  rw [c3] at hel
  have h0 := hel 0 (by decide)
  have h1 := hel 1 (by decide)
  have h2 := hel 2 (by decide)
  have h3 := hel 3 (by decide)
  match xs, hn, hx, h0, h1, h2, h3 with
  | [x0, x1, x2, x3], _, hd1, h0, h1, h2, h3 =>
    simp only [List.map_cons, List.map_nil, List.cons.injEq, and_true] at hd1
    obtain ⟨k0, a0, b0, _⟩ := DataW.trod_int u3 (show DataW.trod _ P W 0 _ false m1 3 _ = some x0 from h0)
    obtain ⟨k1, a1, b1, _⟩ := DataW.trod_int u3 (show DataW.trod _ P W 0 _ false m1 3 _ = some x1 from h1)
    obtain ⟨k2, a2, b2, _⟩ := DataW.trod_int u3 (show DataW.trod _ P W 0 _ false m1 3 _ = some x2 from h2)
    obtain ⟨k3, a3, b3, _⟩ := DataW.trod_int u3 (show DataW.trod _ P W 0 _ false m1 3 _ = some x3 from h3)
    subst b0; subst b1; subst b2; subst b3
    simp only [DataW.lit.injEq, Lit.int.injEq, true_and] at hd1
    obtain ⟨rfl, rfl, rfl, rfl⟩ := hd1
    match l, hlen, a0, a1, a2, a3 with
    | [v0, v1, v2, v3], _, a0, a1, a2, a3 =>
      simp at a0 a1 a2 a3
      subst a0; subst a1; subst a2; subst a3
      rfl

theorem of_laid {W : World} (h : laidMetH Tryd.prog laid1 W) : GlOk W (fun b => b < W.heap.size) glB := by
  rw [MakeChecks.laidMetH_plain _ _ _ (by kernel_rfl)] at h
  obtain ⟨ps, ⟨g0, t0, cs0, f0, p0, q0, hg0, ht0, hv0, hd0, _, _⟩, _, _⟩ := h
  obtain rfl := Option.some.inj (gBases.symm.trans hg0)
  obtain rfl := Option.some.inj (tBases.symm.trans ht0)
  obtain ⟨xs, m1, rfl, hx1, hlen, hn3, hel⟩ := DataW.trod_array Tryd.underlying60 hd0
  have c3 : Tryd.prog.cellsOf 3 = 1 := by kernel_rfl
  have c60 : Tryd.prog.cellsOf 60 = 4 := by kernel_rfl
  have hd1 : xs.map (·.1) = [.lit (.int .i64 2), .lit (.int .i64 3), .lit (.int .i64 5), .lit (.int .i64 7)] := DataW.agg.inj (congrArg Prod.fst hx1.symm)
  have hl := four_cells c3 Tryd.underlying3 hel (hlen.trans c60) hn3 hd1
  have hc := World.var?_cell hg0 hv0
  obtain ⟨l⟩ := cs0
  simp only at hl
  subst hl
  have hlt : 0 < W.heap.size := by
    have := hc 0
    simp only [World.cell?] at this
    rcases Nat.eq_zero_or_pos W.heap.size with e | e
    · rw [Array.getElem?_eq_none (by omega)] at this
      simp at this
    · exact e
  intro g av hg
  cases hb : Nat.beq g 0 with
  | false =>
    have : Ab.look glB g = none := by unfold glB Ab.look; rw [hb]; rfl
    rw [this] at hg; cases hg
  | true =>
    have e : Ab.look glB g = some (.er [.int .i64 2, .int .i64 3, .int .i64 5, .int .i64 7] 0) := by unfold glB Ab.look; rw [hb]; rfl
    rw [e] at hg
    cases hg
    have := Nat.eq_of_beq_eq_true hb
    subst this
    unfold RepM
    refine ⟨0, 0, rfl, hlt, ?_⟩
    simp only [RepC, and_true]
    exact ⟨⟨rfl, _, by simpa using hc 0, rfl⟩, ⟨rfl, _, by simpa using hc 1, rfl⟩, ⟨rfl, _, by simpa using hc 2, rfl⟩, ⟨rfl, _, by simpa using hc 3, rfl⟩⟩

theorem post_of_below {H : Type} {enc : TypeId × Value → H} {P : Program} {f : Func} {s : ChangeSpec} {apart fresh handsOn again : Bool} {W W' : World} {args : Array Value} {v : Value} {ds gs : List (DataW H)} {before pa pv : List MemPlace}
    (hW : DataW.Whole enc P f.params.toList s.vars apart W args.toList ds gs before)
    (hres : ∀ (b : Nat) (sp : Nat → Bool) (hd : Bool), DataW.TrodAll enc P W' b sp hd f.resultTypes.toList (v.resultList f.resultTypes.size) (s.fn H (ds ++ gs)).results [])
    (hargs : ∀ sp : Nat → Bool, (∀ p ∈ before, sp p.block = true) → DataW.TrodAll enc P W' 0 sp true f.params.toList args.toList (s.fn H (ds ++ gs)).args pa)
    (hvars : ∀ sp : Nat → Bool, (∀ p ∈ before, sp p.block = true) → DataW.TrodVars enc P W' sp s.vars (s.fn H (ds ++ gs)).vars pv)
    (hps : before = pa ++ pv) (hk : Below W.heap.size W W')
    (hok : ∀ (j : Nat) (t : TypeId) (r : Value), f.resultTypes[j]? = some t → (v.resultList f.resultTypes.size)[j]? = some r → Value.okWide P W' .any 0 t r) :
    s.post enc P f apart fresh handsOn again W args v W' := by
  have hold : ∀ p ∈ before, (fun b => decide (b < W.heap.size)) p.block = true := fun p hp => by simpa using hW.lt p hp
  refine ⟨ds, gs, before, [], pa, pv, hW, hres _ _ _, hargs _ hold, hvars _ hold, World.keptBut_mono (fun p hp => ⟨hp, ?_⟩) (hk.frame (· ∈ before)), fun _ => ?_⟩
  · rw [hps, List.mem_append] at hp
    exact Or.inr hp
  · have hlt := hW.lt
    obtain ⟨_, _, _, _, _, hz, hn⟩ := hW
    refine ⟨hok, _, _, ([] ++ pa) ++ pv, ⟨[] ++ pa, pv, trodAll_append (hargs _ (fun _ _ => rfl)) (hres _ _ _), hvars _ (fun _ _ => rfl), rfl, ?_, ?_⟩, ?_⟩
    · intro b off hp
      have hp' : MemPlace.cell b off ∈ before := by rw [hps]; simpa using hp
      have := hlt _ hp'
      rw [hk.frozen (p := ⟨b, off, none⟩) this]
      exact hz b off hp'
    · intro ha
      have := hn ha
      rw [hps] at this
      simpa using this
    · intro p hp _
      rw [hps]
      simpa using hp

end Go.Proofs.YteghdokklckbhaaDoor
