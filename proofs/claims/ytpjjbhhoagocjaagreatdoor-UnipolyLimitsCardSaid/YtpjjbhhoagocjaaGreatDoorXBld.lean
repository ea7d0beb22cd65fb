import Derived.Test.YtpjjbhhoagocjaaGreatDoorXGb
import Derived.Lib.AppendStr
import Derived.Lib.Builder
namespace Ab
open Go Go.RowKit
section
variable {c : Ctx} {ro : Option Nat} {N : Nat} {F F' : Foot} {M M' : Nat -> Option MB} {s : St} {a : Act} {w w' : World} {P : Program} {o : Oper} {K : St -> Prop} {Q : Exit -> Act -> World -> Prop}
theorem pt_ptr {T : List (Nat × TyI)} (hT : TOk P T) {t e n : Nat} (h : ((look T t).bind fun i => i.pt) = some (some (e,n))) : P.underlying t = some (.pointer e)∧∃ j,P.info? e = some j∧j.size = n:=by
 obtain ⟨i,h1,h2⟩:=Option.bind_eq_some_iff.1 h
 have h:=hT t i h1
 unfold tyOf at h
 split at h
 ·rename_i ti d e1 e2
  split at h
  ·rename_i z e3
   cases hq : Nat.beq z.cells.size ti.size with
   | false => rw [hq] at h; cases h
   | true =>
    rw [hq] at h
    simp only [cond_true,Option.some.injEq] at h
    subst h
    simp only at h2
    split at h2
    ·rename_i e'
     split at h2
     ·rename_i j hj
      simp only [Option.some.injEq,Prod.mk.injEq] at h2
      obtain ⟨rfl,rfl⟩:=h2
      exact ⟨e2,j,hj,rfl⟩
     ·cases h2
    ·cases h2
    ·cases h2
  ·cases h
 ·cases h
theorem pt_uns {T : List (Nat × TyI)} (hT : TOk P T) {t : Nat} (h : ((look T t).bind fun i => i.pt) = some none) : P.underlying t = some .unsafePointer:=by
 obtain ⟨i,h1,h2⟩:=Option.bind_eq_some_iff.1 h
 have h:=hT t i h1
 unfold tyOf at h
 split at h
 ·rename_i ti d e1 e2
  split at h
  ·rename_i z e3
   cases hq : Nat.beq z.cells.size ti.size with
   | false => rw [hq] at h; cases h
   | true =>
    rw [hq] at h
    simp only [cond_true,Option.some.injEq] at h
    subst h
    simp only at h2
    split at h2
    ·split at h2 <;> cases h2
    ·exact e2
    ·cases h2
  ·cases h
 ·cases h
theorem st_str {T : List (Nat × TyI)} (hT : TOk P T) {t : Nat} {i : TyI} (h1 : look T t = some i) (h2 : i.st = true) : P.underlying t = some .string:=by
 have h:=hT t i h1
 unfold tyOf at h
 split at h
 ·rename_i ti d e1 e2
  split at h
  ·rename_i z e3
   cases hq : Nat.beq z.cells.size ti.size with
   | false => rw [hq] at h; cases h
   | true =>
    rw [hq] at h
    simp only [cond_true,Option.some.injEq] at h
    subst h
    simp only at h2
    split at h2
    ·exact e2
    ·cases h2
  ·cases h
 ·cases h
theorem op_allocT {e : TypeId} (ho : o.op = .alloc e) (hT : TOk P c.T) (h : Rel c N F M s a w) (hd : ∀ t,o.dst = some t -> t < N)
  (hK : aAllocT c.T e s fun v s' => K (Ab.put o.dst v s')) : o.wpIn (Fw ro) 0 P a w (Post c N F M w K) Q:=by
 unfold aAllocT at hK
 cases hl : look c.T e with
 | none => rw [hl] at hK; exact hK.elim
 | some i =>
  rw [hl] at hK
  obtain ⟨ti,d,z,hi,hu,hz,_,_,hzv,_⟩:=hT.parts hl
  simp only at hK
  cases h1 : ones (cells i.zv) with
  | false => rw [h1] at hK; exact hK.elim
  | true =>
   rw [h1] at hK
   simp only at hK
   cases hle : Nat.ble (lenL (cells i.zv)) 65536 with
   | false => rw [hle] at hK; exact hK.elim
   | true =>
    rw [hle] at hK
    have hle:=Nat.le_of_ble_eq_true hle
    rw [lenL_eq] at hle
    rw [hzv] at h1 hK hle
    have hc:=cells_rep (w:=w) (F:=F) (M:=M) h1 (evOfV z)
    have hlen:=RepML.len _ _ hc.1
    generalize hvs : z.cells.toList = vs at hc hlen
    have hz2 : z.cells = ⟨vs⟩:=by rw [<- hvs]
    have hcm : vs.length <= maxLen:=by simp only [maxLen]; omega
    have ok : ∀ (t : Tr F M w F (fun j => if j = s.nx then some (⟨w.heap.size,1,vs.length,e⟩ : MB) else M j) (w.alloc (.cells ⟨vs⟩ e))),BlkOk (w.alloc (.cells ⟨vs⟩ e)) F (fun j => if j = s.nx then some (⟨w.heap.size,1,vs.length,e⟩ : MB) else M j) ⟨w.heap.size,1,vs.length,e⟩ (.own e (cells (ofV z))):=fun t =>
     ⟨⟨rfl,rfl⟩,⟨by show (cells (ofV z)).length <= vs.length; omega,hcm⟩,RepMC_new _ vs 0 (hc.1.tr t) h1 fun j v hj => alloc_cell vs e j v hj⟩
    obtain ⟨k1,k2⟩:=h.toHR.grow none (m:=⟨w.heap.size,1,vs.length,e⟩) (blk:=.own e (cells (ofV z))) (fun b hb _ => alloc_heap _ b hb) (by simp) (fun k hk => by cases hk) (.inl (Nat.le_refl _)) (h.bel.alloc h.bel.size _) (alloc_own (by simp)) ok
    refine wp_next h hd k1 k2 (v:=.pointer (some ⟨w.heap.size,0,none⟩)) ?_ ?_ hK
    ·simp [execOp,ho,Instr.alloc,zeroValue,typeInfo,hi,hz,newVar,newRow,hz2]
    ·unfold RepM; exact ⟨⟨w.heap.size,1,vs.length,e⟩,by simp,rfl⟩
theorem liesAt_self {e : TypeId} (hc : P.cellsOf e ≠ 0) (count : Nat) (hn : 1 <= count) : liesAt P P.depth e count 0 e 1 = true:=by
 have hd : P.depth = (2 * (P.types.size + Made.depth) + 1) + 1:=rfl
 rw [hd]
 simp only [liesAt,Bool.or_eq_true]
 left
 rw [hd]
 simp [rowAt,hc,hn,sameLayout]
theorem own_shape {m : MB} (h : Own w m) : ∃ n,w.shape? m.b = some (m.e,n)∧n = m.cap * m.sz:=by
 obtain ⟨cur,h1,h2⟩:=h
 exact ⟨cur.size,by simp [World.shape?,h1],h2⟩
theorem op_convP {t d : TypeId} {x : Operand} (ho : o.op = .convert t d x) (hT : TOk P c.T) (h : Rel c N F M s a w) (hd : ∀ t,o.dst = some t -> t < N) (hx : ∀ t,x = .tmp t -> t < N)
  (hK : aConvP c.T t d (ev c.gl s x) s fun v => K (Ab.put o.dst v s)) : o.wpIn (Fw ro) 0 P a w (Post c N F M w K) Q:=by
 have hx':=h.ev x hx
 generalize ev c.gl s x = ax at hx' hK
 unfold aConvP at hK
 cases ax with
 | bp k i =>
  cases i with
  | succ _ => exact hK.elim
  | zero =>
  simp only at hK
  cases hb : s.hp k with
  | none => rw [hb] at hK; exact hK.elim
  | some blk =>
  rw [hb] at hK
  cases blk with
  | own e cs =>
   cases cs with
   | nil => exact hK.elim
   | cons c0 cs =>
   simp only at hK
   obtain ⟨m,f1,f2,f3,f4,f5,f6,_⟩:=h.own k e (c0 :: cs) hb
   obtain ⟨n,s1,s2⟩:=own_shape f5
   rw [f2.2,Nat.mul_one] at s2
   rw [f2.1] at s1
   simp only [List.length_cons] at f6
   unfold RepM at hx'
   obtain ⟨m',g1,g2⟩:=hx'
   rw [f1] at g1; cases g1
   have fin : (convert t d (.pointer (some ⟨m.b,0,none⟩))).run P w = .ok (.pointer (some ⟨m.b,0,none⟩)) w -> K (Ab.put o.dst (.bp k 0) s) -> o.wpIn (Fw ro) 0 P a w (Post c N F M w K) Q:=by
    intro hr hK
    refine wp_pure h hd (v:=.pointer (some ⟨m.b,0,none⟩)) ?_ ?_ hK
    ·simp [execOp,ho,g2,hr]
    ·unfold RepM; exact ⟨m,f1,rfl⟩
   cases h1 : (look c.T t).bind fun i => i.pt with
   | none => rw [h1] at hK; exact hK.elim
   | some p =>
   rw [h1] at hK
   cases p with
   | none =>
    simp only at hK
    cases h2 : (look c.T d).bind fun i => i.pt with
    | none => rw [h2] at hK; exact hK.elim
    | some q =>
    rw [h2] at hK
    cases q with
    | none => exact hK.elim
    | some q =>
    obtain ⟨u,j⟩:=q
    cases j with
    | zero => exact hK.elim
    | succ j =>
    simp only at hK
    cases h3 : and (Nat.beq e u) (Nat.ble j (lenL cs)) with
    | false => rw [h3] at hK; exact hK.elim
    | true =>
    rw [h3] at hK
    simp only [Bool.and_eq_true] at h3
    have:=Nat.eq_of_beq_eq_true h3.1
    subst this
    have hle:=Nat.le_of_ble_eq_true h3.2
    rw [lenL_eq] at hle
    obtain ⟨k1,ji,k2,k3⟩:=pt_ptr hT h2
    have hce : P.cellsOf e = j + 1:=by simp [Program.cellsOf,k2,k3]
    refine fin (Lib.run_from_unsafe w ⟨m.b,0,none⟩ (pt_uns hT h1) k1 k2 s1 (liesAt_self (by omega) _ ?_)) hK
    rw [hce,s2]
    exact (Nat.one_le_div_iff (by omega)).2 (by omega)
   | some p =>
    obtain ⟨u,j⟩:=p
    cases j with
    | zero => exact hK.elim
    | succ j =>
    simp only at hK
    cases h2 : (look c.T d).bind fun i => i.pt with
    | none => rw [h2] at hK; exact hK.elim
    | some q =>
    rw [h2] at hK
    cases q with
    | some _ => exact hK.elim
    | none =>
    obtain ⟨k1,ji,k2,k3⟩:=pt_ptr hT h1
    exact fin (Lib.run_to_unsafe w ⟨m.b,0,none⟩ k1 (pt_uns hT h2) k2 (by omega) s1 (by show 0 < n; omega)) hK
  | _ => exact hK.elim
 | _ => exact hK.elim
theorem op_strM {t u : TypeId} {x : Operand} (ho : o.op = .convert t u x) (hT : TOk P c.T) (h : Rel c N F M s a w) (hd : ∀ t,o.dst = some t -> t < N) (hx : ∀ t,x = .tmp t -> t < N)
  (hK : aStrM c.T t u (ev c.gl s x) s fun v => K (Ab.put o.dst v s)) : o.wpIn (Fw ro) 0 P a w (Post c N F M w K) Q:=by
 have hx':=h.ev x hx
 generalize ev c.gl s x = ax at hx' hK
 cases ax with
 | ms k off n =>
  obtain ⟨d,h1,_,h2⟩:=toD_sound (K:=fun v => aStrOf c.T t u v fun v => K (Ab.put o.dst v s)) h.toHR hx' hK
  exact op_strOfX ho hT h hd (RepM.of_D (M:=M) _ _ h1) h2
 | _ => exact op_strOfX ho hT h hd hx' hK
theorem ptrEq_sound (hT : TOk P c.T) {t : TypeId} {x y : AV} {u v : Value} (hx : RepM w F M x u) (hy : RepM w F M y v) {K : Bool -> Prop} (hK : aPtrEq c.T t x y K) :
  ∃ r,(Op.equal t u v).run P w = .ok r w∧(eqGuard .eql t (.tmp 0) (.tmp 0) u v).run P w = .ok () w∧K r∧(∃ p,u = .pointer p)∧(∃ q,v = .pointer q):=by
 unfold aPtrEq at hK
 cases h1 : (look c.T t).bind fun i => i.pt with
 | none => rw [h1] at hK; exact hK.elim
 | some p =>
 rw [h1] at hK
 cases p with
 | none => exact hK.elim
 | some p =>
 obtain ⟨e,j⟩:=p
 cases j with
 | zero => exact hK.elim
 | succ j =>
 simp only at hK
 obtain ⟨k1,ji,k2,k3⟩:=pt_ptr hT h1
 have hd : Op.maxDepth = Nat.succ (Op.maxDepth - 1):=rfl
 cases x with
 | lit x =>
  cases x with
  | pointer x =>
   cases x with
   | some _ => exact hK.elim
   | none =>
   unfold RepM at hx; subst hx
   cases y with
   | lit y =>
    cases y with
    | pointer y =>
     cases y with
     | some _ => exact hK.elim
     | none =>
     unfold RepM at hy; subst hy
     refine ⟨true,?_,by simp [eqGuard],hK,⟨_,rfl⟩,⟨_,rfl⟩⟩
     rw [Op.equal,hd,Op.equalIn]; simp [run_underlying k1]
    | _ => exact hK.elim
   | bp k' i' =>
    unfold RepM at hy
    obtain ⟨m,_,rfl⟩:=hy
    refine ⟨false,?_,by simp [eqGuard],hK,⟨_,rfl⟩,⟨_,rfl⟩⟩
    rw [Op.equal,hd,Op.equalIn]; simp [run_underlying k1]
   | _ => exact hK.elim
  | _ => exact hK.elim
 | bp k i =>
  unfold RepM at hx
  obtain ⟨m,f1,rfl⟩:=hx
  cases y with
  | lit y =>
   cases y with
   | pointer y =>
    cases y with
    | some _ => exact hK.elim
    | none =>
    unfold RepM at hy; subst hy
    refine ⟨false,?_,by simp [eqGuard],hK,⟨_,rfl⟩,⟨_,rfl⟩⟩
    rw [Op.equal,hd,Op.equalIn]; simp [run_underlying k1]
   | _ => exact hK.elim
  | bp k' i' =>
   simp only at hK
   cases hb : and (Nat.beq k k') (Nat.beq i i') with
   | false => rw [hb] at hK; exact hK.elim
   | true =>
   rw [hb] at hK
   simp only [Bool.and_eq_true] at hb
   have:=Nat.eq_of_beq_eq_true hb.1
   subst this
   have:=Nat.eq_of_beq_eq_true hb.2
   subst this
   unfold RepM at hy
   obtain ⟨m',g1,rfl⟩:=hy
   rw [f1] at g1; cases g1
   refine ⟨true,?_,by simp [eqGuard],hK,⟨_,rfl⟩,⟨_,rfl⟩⟩
   rw [Op.equal,hd,Op.equalIn]; simp [run_underlying k1,Go.sizeOf,typeInfo,k2,sameAddr]
  | _ => exact hK.elim
 | _ => exact hK.elim
theorem sliceNil_sound (hT : TOk P c.T) {t et : TypeId} (ht : ((look c.T t).bind fun i => i.sl) = some et) {x y : AV} {u v : Value} (hx : RepM w F M x u) (hy : RepM w F M y v) {K : Bool -> Prop} (hK : aSliceNil x y K) :
  ∃ r,(Op.equal t u v).run P w = .ok r w∧K r∧(∃ p n q,u = .slice p n q)∧v = .slice none 0 0:=by
 obtain ⟨i,hi,hsl⟩:=Option.bind_eq_some_iff.1 ht
 obtain ⟨_,d,_,_,hu,_,_,_,_,h1,_⟩:=hT.parts hi
 rw [h1 et hsl] at hu
 have hd : Op.maxDepth = Nat.succ (Op.maxDepth - 1):=rfl
 unfold aSliceNil at hK
 have some' : ∀ (p : Addr) (n q : Nat),(Op.equal t (.slice (some p) n q) (.slice none 0 0)).run P w = .ok false w:=by
  intro p n q
  rw [Op.equal,hd,Op.equalIn]; simp [run_underlying hu]
 have none' : ∀ (n q : Nat),(Op.equal t (.slice none n q) (.slice none 0 0)).run P w = .ok true w:=by
  intro n q
  rw [Op.equal,hd,Op.equalIn]; simp [run_underlying hu]
 cases y with
 | nil =>
  unfold RepM at hy; subst hy
  cases x with
  | nil =>
   unfold RepM at hx; subst hx
   exact ⟨true,none' 0 0,hK,⟨_,_,_,rfl⟩,rfl⟩
  | sl rows =>
   unfold RepM RepD at hx
   obtain ⟨p,cp,rfl,_,_,h4⟩:=hx
   cases rows with
   | nil =>
    cases p with
    | none => exact ⟨true,none' _ _,hK.1,⟨_,_,_,rfl⟩,rfl⟩
    | some p => exact ⟨false,some' _ _ _,hK.2,⟨_,_,_,rfl⟩,rfl⟩
   | cons r rows =>
    rcases h4 with h4 | ⟨b,off,sz,rfl,_⟩
    ·cases h4
    ·exact ⟨false,some' _ _ _,hK,⟨_,_,_,rfl⟩,rfl⟩
  | ms k off n =>
   cases n with
   | zero => exact hK.elim
   | succ n =>
    unfold RepM at hx
    obtain ⟨m,_,⟨rfl,_⟩ | ⟨h0,_⟩⟩:=hx
    ·exact ⟨false,some' _ _ _,hK,⟨_,_,_,rfl⟩,rfl⟩
    ·cases h0
  | _ => exact hK.elim
 | _ => exact hK.elim
theorem op_ptrEq {t t' : TypeId} {x y : Operand} {ng : Bool} (ho : o.op = .binOp (if ng then .neq else .eql) t x y t') (hT : TOk P c.T) (h : Rel c N F M s a w) (hd : ∀ t,o.dst = some t -> t < N) (hx : ∀ t,x = .tmp t -> t < N) (hy : ∀ t,y = .tmp t -> t < N)
  (hK : aEq2 c.T t (ev c.gl s x) (ev c.gl s y) fun r => K (Ab.put o.dst (.bool (if ng then !r else r)) s)) : o.wpIn (Fw ro) 0 P a w (Post c N F M w K) Q:=by
 unfold aEq2 at hK
 cases hs : (look c.T t).bind fun i => i.sl with
 | none =>
  rw [hs] at hK
  obtain ⟨r,h1,_,h3,⟨p,hp⟩,⟨q,hq⟩⟩:=ptrEq_sound hT (h.ev x hx) (h.ev y hy) hK
  rw [hp,hq] at h1
  refine wp_pure h hd (v:=.bool (if ng then !r else r)) ?_ (by unfold RepM; rfl) h3
  cases ng
  ·simp [execOp,ho,hp,hq,Go.binOp,eqGuard,h1]
  ·simp [execOp,ho,hp,hq,Go.binOp,eqGuard,h1]
 | some et =>
  rw [hs] at hK
  obtain ⟨r,h1,h3,⟨p,n,q,hp⟩,hq⟩:=sliceNil_sound hT hs (h.ev x hx) (h.ev y hy) hK
  rw [hp,hq] at h1
  refine wp_pure h hd (v:=.bool (if ng then !r else r)) ?_ (by unfold RepM; rfl) h3
  cases ng
  ·simp [execOp,ho,hp,hq,Go.binOp,eqGuard,h1]
  ·simp [execOp,ho,hp,hq,Go.binOp,eqGuard,h1]
theorem op_strAdd {t t' : TypeId} {x y : Operand} (ho : o.op = .binOp .add t x y t') (h : Rel c N F M s a w) (hd : ∀ t,o.dst = some t -> t < N) (hx : ∀ t,x = .tmp t -> t < N) (hy : ∀ t,y = .tmp t -> t < N)
  (hK : aStrAdd (ev c.gl s x) (ev c.gl s y) fun v => K (Ab.put o.dst v s)) : o.wpIn (Fw ro) 0 P a w (Post c N F M w K) Q:=by
 have hx':=h.ev x hx
 have hy':=h.ev y hy
 generalize ev c.gl s x = ax at hx' hK
 generalize ev c.gl s y = ay at hy' hK
 cases ax with
 | str p =>
  cases ay with
  | str q =>
   unfold RepM at hx' hy'
   simp only [aStrAdd] at hK
   cases hb : Nat.ble (p.data.toList.length + q.data.toList.length) 1000000000000 with
   | false => rw [hb] at hK; exact hK.elim
   | true =>
   rw [hb] at hK
   have e : p ++ q = ⟨⟨p.data.toList ++ q.data.toList⟩⟩:=by
    apply ByteArray.ext
    rw [ByteArray.data_append]
    apply Array.ext'
    simp
   refine wp_pure h hd (v:=.string ⟨⟨p.data.toList ++ q.data.toList⟩⟩) ?_ (by unfold RepM; rfl) hK
   have hle:=Nat.le_of_ble_eq_true hb
   have hm : ¬ (((p.size + q.size : Nat) : Int) > IntKind.i64.max):=by
    rw [show p.size = p.data.toList.length from Array.length_toList.symm,show q.size = q.data.toList.length from Array.length_toList.symm,show IntKind.i64.max = 9223372036854775807 from rfl]
    omega
   simp only [execOp,ho,hx',hy',Go.binOp,eqGuard,Op.stringOp,if_neg hm,e]
   rfl
  | _ => exact hK.elim
 | _ => exact hK.elim
theorem op_strCut {t : TypeId} {x : Operand} {lo hi : Option Operand} (ho : o.op = .slice t x lo hi none) (hT : TOk P c.T) {i : TyI} (hi1 : look c.T t = some i) (hi2 : i.st = true) (h : Rel c N F M s a w) (hd : ∀ t,o.dst = some t -> t < N) (hx : ∀ t,x = .tmp t -> t < N) (hlo : ∀ y,lo = some y -> ∀ t,y = .tmp t -> t < N) (hhi : ∀ y,hi = some y -> ∀ t,y = .tmp t -> t < N)
  (hK : aStrCut (ev c.gl s x) (lo.map (ev c.gl s)) (hi.map (ev c.gl s)) fun v => K (Ab.put o.dst v s)) : o.wpIn (Fw ro) 0 P a w (Post c N F M w K) Q:=by
 have hu:=st_str hT hi1 hi2
 have hx':=h.ev x hx
 generalize ev c.gl s x = ax at hx' hK
 unfold aStrCut at hK
 cases ax with
 | str b =>
  unfold RepM at hx'
  simp only at hK
  have hsz : b.size = b.data.toList.length:=Array.length_toList.symm
  obtain ⟨hh,r1,r2,hK⟩ : ∃ hh : Nat,((hi.map a.eval = none∧hh = b.size) ∨ ∃ k i,hi.map a.eval = some (.int k i)∧0 <= i∧i <= (b.size : Int)∧hh = i.toNat)∧hh <= b.size ∧
    (match lo.map (ev c.gl s) with
     | none => fun k : Nat -> Prop => k 0
     | some (.int _ l) => fun k => 0 <= l∧l <= hh∧k l.toNat
     | _ => fun _ => False) fun l => K (Ab.put o.dst (.str ⟨⟨(b.data.toList.take hh).drop l⟩⟩) s):=by
   rw [<- hsz] at hK
   cases hi with
   | none => exact ⟨b.size,.inl ⟨rfl,rfl⟩,Nat.le_refl _,hK⟩
   | some y =>
    have hy:=h.ev y (hhi y rfl)
    simp only [Option.map_some] at hK ⊢
    generalize ev c.gl s y = ay at hy hK
    cases ay with
    | int k n =>
     unfold RepM at hy
     obtain ⟨g1,g2,g3⟩:=hK
     exact ⟨n.toNat,.inr ⟨k,n,by rw [hy],g1,g2,rfl⟩,by omega,g3⟩
    | _ => exact hK.elim
  obtain ⟨ll,r3,r4,hK⟩ : ∃ ll : Nat,((lo.map a.eval = none∧ll = 0) ∨ ∃ k i,lo.map a.eval = some (.int k i)∧0 <= i∧i <= (hh : Int)∧ll = i.toNat)∧ll <= hh∧K (Ab.put o.dst (.str ⟨⟨(b.data.toList.take hh).drop ll⟩⟩) s):=by
   cases lo with
   | none => exact ⟨0,.inl ⟨rfl,rfl⟩,Nat.zero_le _,hK⟩
   | some y =>
    have hy:=h.ev y (hlo y rfl)
    simp only [Option.map_some] at hK ⊢
    generalize ev c.gl s y = ay at hy hK
    cases ay with
    | int k n =>
     unfold RepM at hy
     obtain ⟨g1,g2,g3⟩:=hK
     exact ⟨n.toNat,.inr ⟨k,n,by rw [hy],g1,g2,rfl⟩,by omega,g3⟩
    | _ => exact hK.elim
  have e : b.extract ll hh = ⟨⟨(b.data.toList.take hh).drop ll⟩⟩:=by
   apply ByteArray.ext
   rw [ByteArray.data_extract]
   apply Array.ext'
   rw [Array.toList_extract,List.extract_eq_take_drop,List.drop_take]
  refine wp_pure h hd (v:=.string ⟨⟨(b.data.toList.take hh).drop ll⟩⟩) ?_ (by unfold RepM; rfl) hK
  rw [<- e]
  rcases r1 with ⟨r1,rfl⟩ | ⟨k,i,r1,h0,h1,rfl⟩
  ·rcases r3 with ⟨r3,rfl⟩ | ⟨k',i',r3,h0',h1',rfl⟩
   ·simp [execOp,ho,hx',Instr.sliceAt,run_underlying hu,Instr.slice,Instr.sliceBounds,r1,r3]
   ·simp [execOp,ho,hx',Instr.sliceAt,run_underlying hu,Instr.slice,Instr.sliceBounds,r1,r3,Instr.sliceBound,asIntOf,h0',h1']
  ·rcases r3 with ⟨r3,rfl⟩ | ⟨k',i',r3,h0',h1',rfl⟩
   ·simp [execOp,ho,hx',Instr.sliceAt,run_underlying hu,Instr.slice,Instr.sliceBounds,r1,r3,Instr.sliceBound,asIntOf,h0,h1]
   ·obtain ⟨j,rfl⟩:=Int.eq_ofNat_of_zero_le h0
    obtain ⟨j',rfl⟩:=Int.eq_ofNat_of_zero_le h0'
    have h3 : j' <= j:=by omega
    have h4 : j <= b.size:=by omega
    simp [execOp,ho,hx',Instr.sliceAt,run_underlying hu,Instr.slice,Instr.sliceBounds,r1,r3,Instr.sliceBound,asIntOf,h3,h4]
 | _ => exact hK.elim
theorem op_strLen {t : TypeId} {x : Operand} {args : Array Operand} {ts : Array TypeId} {b : ByteArray} (hu : P.underlying t = some .string) (ha : args = #[x]) (hts : ts = #[t]) (ho : o.op = .call { callee:=.builtin .len,args:=args,argTypes:=ts })
  (h : Rel c N F M s a w) (hd : ∀ t,o.dst = some t -> t < N) (hx : ∀ t,x = .tmp t -> t < N) (hs : ev c.gl s x = .str b)
  (hK : K (Ab.put o.dst (.int .i64 b.data.toList.length) s)) : o.wpIn (Fw ro) 0 P a w (Post c N F M w K) Q:=by
 have hx':=h.ev x hx
 rw [hs] at hx'
 unfold RepM at hx'
 refine wp_pure h hd (v:=.int .i64 b.data.toList.length) ?_ (by unfold RepM; rfl) hK
 have hl : (b.data.toList.length : Int) = (b.size : Int):=by rw [Array.length_toList]; rfl
 rw [hl]
 simp [execOp,ho,ha,hts,resolve,invoke,builtin,Builtin.len_,hx',goInt,run_underlying hu]
theorem op_appStr {x y : Operand} {args : Array Operand} {ts : Array TypeId} {t u : TypeId} {iu : TyI} (ha : args = #[x,y]) (hts : ts = #[t,u]) (ho : o.op = .call { callee:=.builtin .append,args:=args,argTypes:=ts })
  (hT : TOk P c.T) (hu1 : look c.T u = some iu) (hu2 : iu.st = true) (h : Rel c N F M s a w) (hd : ∀ t,o.dst = some t -> t < N) (hx : ∀ t,x = .tmp t -> t < N) (hy : ∀ t,y = .tmp t -> t < N)
  (hK : aAppStr c.T t (ev c.gl s x) (ev c.gl s y) s fun v s' => K (Ab.put o.dst v s')) : o.wpIn (Fw ro) 0 P a w (Post c N F M w K) Q:=by
 have hus:=st_str hT hu1 hu2
 have hx':=h.ev x hx
 have hy':=h.ev y hy
 generalize ev c.gl s x = ax at hx' hK
 generalize ev c.gl s y = ay at hy' hK
 unfold aAppStr at hK
 cases hsl : (look c.T t).bind fun i => i.sl with
 | none => rw [hsl] at hK; exact hK.elim
 | some et =>
  rw [hsl] at hK
  simp only at hK
  cases he : look c.T et with
  | none => rw [he] at hK; exact hK.elim
  | some e =>
   rw [he] at hK
   simp only at hK
   obtain ⟨et',ti,z,hu,hi,hz,hsz,hby,hzv,hzs⟩:=hT.elem (t:=t) (e:=e) (by rw [hsl]; exact he)
   have : et' = et:=by
    cases hl : look c.T t with
    | none => simp [hl] at hsl
    | some i =>
     obtain ⟨_,d,_,_,hu',_,_,_,_,hsl',_⟩:=hT.parts hl
     rw [hl] at hsl
     rw [hsl' et hsl] at hu'
     rw [hu'] at hu; cases hu; rfl
   subst this
   cases hq : and (isU8 e.zv) (and (Nat.beq e.sz 1) (Nat.beq e.by_ 1)) with
   | false => rw [hq] at hK; exact hK.elim
   | true =>
   rw [hq] at hK
   simp only [Bool.and_eq_true] at hq
   obtain ⟨hq1,hq2,hq3⟩:=hq
   have hq2:=Nat.eq_of_beq_eq_true hq2
   have hq3:=Nat.eq_of_beq_eq_true hq3
   cases ay with
   | str b =>
    simp only at hK
    unfold RepM at hy'
    have hz0 : ti.zero = some (.int .u8 0):=by
     rw [hzv] at hq1
     cases z with
     | int k n =>
      unfold ofV isU8 at hq1
      split at hq1
      ·rename_i e; cases e; exact hz
      ·cases hq1
     | slice p n c => cases p <;> cases n <;> cases c <;> (unfold ofV isU8 at hq1; cases hq1)
     | pointer p => cases p <;> (unfold ofV isU8 at hq1; cases hq1)
     | agg cs => obtain ⟨cs⟩:=cs; unfold ofV isU8 at hq1; cases hq1
     | tuple cs => obtain ⟨cs⟩:=cs; unfold ofV isU8 at hq1; cases hq1
     | _ => unfold ofV isU8 at hq1; cases hq1
    have hrows : (strRows b).length = b.size:=by
     unfold strRows; rw [List.length_map]; exact Array.length_toList
    have hflat : RepDL w F (strRows b).flatten (Lib.strCells b):=by
     unfold strRows Lib.strCells
     induction b.data.toList with
     | nil => simp [RepDL]
     | cons x l ih => simp only [List.map_cons,List.flatten_cons,List.singleton_append]; unfold RepDL; exact ⟨_,_,rfl,by unfold RepD; rfl,ih⟩
    have hrun : ∀ {v' : Value} {w' : World},(Builtin.append_ #[t,u] o.type #[a.eval x,a.eval y]).run P w = .ok v' w' -> (execOp a.eval o).run P w = .ok (.value v') w':=by
     intro v' w' hr
     simp [execOp,ho,ha,hts,resolve,invoke,builtin,hr,Result.andThen]
    have core : ∀ (old : Option Nat) (v : Value) (n : Nat) (rows : List (List AV)) (xs : List Value),a.eval x = v -> w.ownsRow c.w0.heap.size et' 1 v n xs -> n = rows.length -> RowsOk 1 rows -> RepDL w F rows.flatten xs -> (∀ x ∈ rows.flatten,one x = true) -> n + b.size <= 65536 -> 1 <= n + b.size ->
      (∀ g,v.ownBlock = some g -> ∃ k m,old = some k∧s.hp k ≠ none∧M k = some m∧m.b = g∧¬ F m.b) -> (∀ k,old = some k -> s.hp k ≠ none∧∀ mk,M k = some mk -> ¬ F mk.b) ->
      (∃ g n' c' w',(Builtin.append_ #[t,u] o.type #[v,.string b]).run P w = .ok (.slice (some ⟨g,0,none⟩) n' c') w'∧(w.heap.size <= g ∨ ∃ k mk,old = some k∧M k = some mk∧g = mk.b)) ->
      K (Ab.put o.dst (.ms s.nx 0 (n + b.size)) ⟨s.tm,upd s.nx (some (.arr (et',1) (rows ++ strRows b) true)) (drop1 old s.hp),s.nx + 1⟩) -> o.wpIn (Fw ro) 0 P a w (Post c N F M w K) Q:=by
     intro old v n rows xs hv hown hn hok hxs hones hle h1 hblk hold hwh hK
     have hm : n + b.size <= maxLen:=by simp only [maxLen]; omega
     obtain ⟨v',w',hrn,r1,r2,r3⟩:=Lib.run_append_own_string (P:=P) w c.w0.heap.size t u o.type et' ti hu hus hi hz0 (by rw [<- hsz,hq2]) (by rw [<- hby,hq3]) v n xs hown b hm (by omega) h.bel.size
     have hnews : ∀ x ∈ (strRows b).flatten,one x = true:=by
      intro x hx
      unfold strRows at hx
      rw [List.mem_flatten] at hx
      obtain ⟨l,hl,hx⟩:=hx
      obtain ⟨y,_,rfl⟩:=List.mem_map.1 hl
      simp only [List.mem_singleton] at hx
      subst hx; rfl
     have hokall : RowsOk 1 (rows ++ strRows b):=fun r hr => by
      rcases List.mem_append.1 hr with hr | hr
      ·exact hok r hr
      ·unfold strRows at hr
       obtain ⟨y,_,rfl⟩:=List.mem_map.1 hr
       rfl
     have honesall : ∀ x ∈ (rows ++ strRows b).flatten,one x = true:=fun x hx => by
      rw [List.flatten_append,List.mem_append] at hx
      rcases hx with hx | hx
      ·exact hones x hx
      ·exact hnews x hx
     rcases r1.2 with ⟨_,h0⟩ | ⟨g,cap',cur',rfl,q1,q2,q3,q4,q5,q6⟩
     ·omega
     have hbel : Below c.w0.heap.size c.w0 w':=h.bel.grown (row:=v.ownBlock) r2 h.bel.size (fun k' hk => by
      obtain ⟨k,m,_,g2,g3,rfl,g4⟩:=hblk k' hk
      exact (h.owned g2 g3).1)
     have hgm : w.heap.size <= g ∨ ∃ k mk,old = some k∧M k = some mk∧g = mk.b:=by
      obtain ⟨g',n',c',w2,e1,e2⟩:=hwh
      rw [hrn] at e1
      cases e1
      exact e2
     obtain ⟨k1,k2⟩:=h.toHR.grow (w':=w') old (m:=⟨g,1,cap',et'⟩) (blk:=.arr (et',1) (rows ++ strRows b) true) (fun b' hb' hne => r2.block b' hb' (fun e => by
       obtain ⟨k,m,g1,g2,g3,g4,_⟩:=hblk b' e.symm
       exact hne k m g1 g3 g4.symm)) r2.size hold hgm hbel ⟨cur',q2,q5⟩
      (fun t => ⟨rfl,rfl,⟨by rw [List.length_append,hrows,<- hn]; exact q3,q4⟩,Nat.one_pos,ownsRow_flat r1 hokall (by rw [List.flatten_append]; exact (RepDL.mono t.foot (fun b hb => t.cell b hb) _ _ hxs).app (RepDL.mono t.foot (fun b hb => t.cell b hb) _ _ hflat)) honesall⟩)
     refine wp_next h hd k1 k2 (hrun (by rw [hv,hy']; exact hrn)) ?_ hK
     unfold RepM
     exact ⟨⟨g,1,cap',et'⟩,by simp,.inl ⟨by simp,by simp; omega⟩⟩
    cases ax with
    | nil =>
     unfold RepM at hx'
     cases h1 : Nat.ble 1 (strRows b).length with
     | false => simp only [h1] at hK
     | true =>
     cases h2 : Nat.ble (strRows b).length 65536 with
     | false => simp only [h1,h2] at hK
     | true =>
     simp only [h1,h2] at hK
     have h1:=Nat.le_of_ble_eq_true h1
     have h2:=Nat.le_of_ble_eq_true h2
     refine core none (.slice none 0 0) 0 [] [] hx' ⟨rfl,.inl ⟨rfl,rfl⟩⟩ rfl (fun r hr => by cases hr) (by simp [RepDL]) (by simp) (by omega) (by omega) (fun g hg => by cases hg) (fun k hk => by cases hk) ?_ ?_
     ·exact ⟨_,_,_,_,run_append_nil_string (P:=P) (w:=w) t u o.type et' ti _ hu hus hi hz0 b (by omega) (by omega) (by rw [<- hby,hq3]; omega),.inl (Nat.le_refl _)⟩
     ·rw [Nat.zero_add,<- hrows]
      exact hK
    | ms k off n =>
     cases off with
     | succ _ => exact hK.elim
     | zero =>
     simp only at hK
     cases hb : s.hp k with
     | none => rw [hb] at hK; exact hK.elim
     | some blk =>
     rw [hb] at hK
     cases blk with
     | arr sz rows lv =>
      cases lv with
      | false => exact hK.elim
      | true =>
      simp only at hK
      cases hc : and (and (Nat.beq sz.1 et') (Nat.beq sz.2 1)) (and (and (Nat.ble 1 n) (Nat.beq n rows.length)) (Nat.ble (n + (strRows b).length) 65536)) with
      | false => rw [hc] at hK; exact hK.elim
      | true =>
      rw [hc] at hK
      simp only [Bool.and_eq_true] at hc
      have c1:=Nat.eq_of_beq_eq_true hc.1.1
      have c2:=Nat.eq_of_beq_eq_true hc.1.2
      have c3:=Nat.eq_of_beq_eq_true hc.2.1.2
      have c0:=Nat.le_of_ble_eq_true hc.2.1.1
      have c4:=Nat.le_of_ble_eq_true hc.2.2
      obtain ⟨m,f1,f2,f3,f4,_,f6,f7,f8,f9⟩:=h.arr k sz rows true hb
      have hme : m.e = et':=by rw [<- c1,<- f2]
      have hms : m.sz = 1:=by rw [<- c2,<- f2]
      unfold RepM at hx'
      obtain ⟨m',g1,g2⟩:=hx'
      rw [f1] at g1; cases g1
      rcases g2 with ⟨g2,g3⟩ | ⟨_,g3,_⟩
      case inr => omega
      rw [hms] at f9
      obtain ⟨olds,o1,o2,o3,o4⟩:=RepR.vals rows 0 f9
      have hokr : RowsOk 1 rows:=fun r hr => RepR.rowlen f9 r hr
      obtain ⟨cur,hg,hcs⟩:=f6
      rw [hme] at hg
      rw [hms,Nat.mul_one] at hcs
      have htake : cur.toList.take (n * 1) = olds:=by
       have hl : olds.length = n:=by rw [o1,<- c3,Nat.mul_one]
       apply List.ext_getElem?
       intro j
       by_cases hj : j < n
       ·have e1:=o4 j olds[j] (List.getElem?_eq_getElem (by omega))
        rw [cell_of_row w m.b _ cur et' (0,0) hg] at e1
        rw [Nat.mul_one,List.getElem?_take,if_pos hj,List.getElem?_eq_getElem (show j < olds.length by omega)]
        simpa using e1
       ·rw [Nat.mul_one,List.getElem?_take,if_neg hj,List.getElem?_eq_none (by omega)]
      refine core (some k) (.slice (some ⟨m.b,0,none⟩) n m.cap) n rows olds (by rw [g2]; simp) ⟨by rw [o1,<- c3],.inr ⟨m.b,m.cap,cur,rfl,f3,hg,by omega,f7.2,by omega,htake⟩⟩ c3 hokr o2 o3 (by omega) (by omega) (fun g hg => ?_) (fun k' hk => ?_) ?_ ?_
      ·simp only [Value.ownBlock,Option.some.injEq] at hg
       exact ⟨k,m,rfl,by rw [hb]; simp,f1,hg,f4 rfl⟩
      ·cases hk
       exact ⟨by rw [hb]; simp,fun mk hmk => by rw [f1] at hmk; cases hmk; exact f4 rfl⟩
      ·by_cases hroom : n + b.size <= m.cap
       ·exact ⟨_,_,_,_,Lib.run_append_room_string (P:=P) w t u o.type et' ti hu hus hi (by rw [<- hsz,hq2]) m.b n m.cap cur hg b hroom (by omega),.inr ⟨k,m,rfl,f1,rfl⟩⟩
       ·exact ⟨_,_,_,_,Lib.run_append_grow_string (P:=P) w t u o.type et' ti _ hu hus hi hz0 ⟨m.b,0,none⟩ n m.cap olds (by rw [o1,<- c3,<- hsz,hq2]) (fun j u hj => by rw [Addr.add_lit]; exact o4 j u hj) b (by omega) (by omega) (growslice_fits (by omega) (by rw [<- hby,hq3]; omega)),.inl (Nat.le_refl _)⟩
      ·rw [<- hrows]; exact hK
     | _ => exact hK.elim
    | _ => exact hK.elim
   | _ => exact hK.elim
end
end Ab
