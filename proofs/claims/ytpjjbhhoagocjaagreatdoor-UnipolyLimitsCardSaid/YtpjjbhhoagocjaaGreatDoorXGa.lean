import Derived.Calls
import Derived.Orders
import Derived.Below
import Derived.Laws.Entries
import Derived.Laws.AppendOwn
import Derived.Laws.OwnMore
import Derived.Laws.IdiomCopy
import Derived.Laws.Small
import Derived.DefersIn
import Derived.Laws.BytesArg
import Derived.Laws.StructEq
import Derived.RangeFuncLeaves
import Derived.RangeFuncRecord
import Derived.OrdersIn
import Derived.Laws.MakeOwn
section
namespace Ab
open Go
inductive AV where
 | int (k : IntKind) (n : Int)
 | bool (b : Bool)
 | str (s : ByteArray)
 /-- a slice whose elements are known and do not change -/
 | sl (rows : List (List AV))
 /-- the nil slice -/
 | nil
 | agg (cells : List AV)
 | tup (vs : List AV)
 /-- the address of cell o of a variable of the call's own -/
 | bp (k o : Nat)
 /-- the address of cell o of element r of an array of the call's own -/
 | ap (k r o : Nat)
 /-- the address of cell o of an element that does not change -/
 | er (row : List AV) (o : Nat)
 /-- a slice of an array of the call's own -/
 | ms (k off len : Nat)
 | fn (f : FuncId) (cap : List AV)
 /-- the yield of loop l -/
 | yl (l : Nat)
 /-- a map of the call's own -/
 | mv (k : Nat)
 /-- this very value -/
 | lit (v : Value)
 | undef
 deriving Inhabited
inductive Blk where
 /-- a variable -/
 | box (cells : List AV)
 /-- an array of elements (their type,their size),which are data; live: it may be written -/
 | arr (sz : Nat × Nat) (rows : List (List AV)) (live : Bool)
 /-- an array of elements of one cell (their type),which need not be data -/
 | own (et : Nat) (cells : List AV)
 /-- a key that is kept for an allocation of the region -/
 | res
 /-- a map whose keys are pairs of ints -/
 | mp (es : List ((Int × Int) × AV))
inductive Tg where
 | fn (f : FuncId)
 | yl (l : Nat)
structure St where
 tm : Nat -> AV
 hp : Nat -> Option Blk
 nx : Nat
def put (d : Option Nat) (v : AV) (s : St) : St :=
 match d with
 | some d => ⟨fun k => bif Nat.beq k d then v else s.tm k,s.hp,s.nx⟩
 | none => s
def upd (k : Nat) (b : Option Blk) (h : Nat -> Option Blk) : Nat -> Option Blk:=fun j => bif Nat.beq j k then b else h j
def alloc (b : Blk) (s : St) : St:=⟨s.tm,upd s.nx (some b) s.hp,Nat.succ s.nx⟩
def setB (k : Nat) (b : Option Blk) (s : St) : St:=⟨s.tm,upd k b s.hp,s.nx⟩
mutual
def ofV : Value -> AV
 | .int k n => .int k n
 | .bool b => .bool b
 | .string s => .str s
 | .slice none 0 0 => .nil
 | .agg ⟨cs⟩ => .agg (ofVs cs)
 | .tuple ⟨cs⟩ => .tup (ofVs cs)
 | .pointer none => .lit (.pointer none)
 | .nilIface => .lit .nilIface
 | _ => .undef
def ofVs : List Value -> List AV
 | [] => []
 | v :: vs => ofV v :: ofVs vs
end
def cells : AV -> List AV
 | .agg cs => cs
 | v => [v]
def ptrs : List AV -> Bool
 | [] => false
 | .bp _ _ :: _ => true
 | .fn _ _ :: _ => true
 | .mv _ :: _ => true
 | _ :: vs => ptrs vs
def one : AV -> Bool
 | .agg _ | .tup _ | .undef => false
 | .lit v => match v with | .pointer none => true | .nilIface => true | _ => false
 | _ => true
def ones : List AV -> Bool
 | [] => true
 | v :: vs => and (one v) (ones vs)
def force (v : AV) (K : AV -> Prop) : Prop :=
 match v with
 | .int k n => K (.int k n)
 | .bool b => K (.bool b)
 | .str s => K (.str s)
 | .sl r => K (.sl r)
 | .nil => K .nil
 | .agg cs => K (.agg cs)
 | .tup vs => K (.tup vs)
 | .bp k o => K (.bp k o)
 | .ap k r o => K (.ap k r o)
 | .er row o => K (.er row o)
 | .ms k o n => K (.ms k o n)
 | .fn f c => K (.fn f c)
 | .yl l => K (.yl l)
 | .mv k => K (.mv k)
 | .lit v => K (.lit v)
 | .undef => K .undef
def forceL : List AV -> (List AV -> Prop) -> Prop
 | [],K => K []
 | v :: vs,K => force v fun v => forceL vs fun vs => K (v :: vs)
theorem force_eq (v : AV) (K : AV -> Prop) : force v K = K v:=by cases v <;> rfl
theorem forceL_eq (l : List AV) (K : List AV -> Prop) : forceL l K = K l:=by
 induction l generalizing K with
 | nil => rfl
 | cons v vs ih => simp only [forceL,force_eq,ih]
structure TyI where
 sz : Nat
 by_ : Nat
 zv : AV
 /-- the element's type,of a slice's type -/
 sl : Option TypeId
 /-- a struct or an array -/
 ag : Bool
 /-- the place and the size of each field -/
 lay : List (Nat × Nat)
 /-- the length of an array,and its elements' size -/
 arr : Option (Nat × Nat)
 k : Option IntKind
 bo : Bool
 /-- the tables know the type of each field -/
 fo : Bool
 /-- the type of an array's elements -/
 ael : Option TypeId
 /-- == looks at each cell,which is an integer or a bool -/
 eqs : Option (List Bool)
 /-- which fields are structs or arrays -/
 fag : List Bool
 /-- a string -/
 st : Bool:=false
 /-- a map whose keys are pairs of ints: the zero of its elements -/
 mp : Option AV:=none
 /-- a pointer: what it leads to,and its size; none: unsafe.Pointer -/
 pt : Option (Option (Nat × Nat)):=none
def isIntT (P : Program) (t : TypeId) : Bool:=match P.underlying t with | some (.int _) => true | _ => false
def isAggT (P : Program) (t : TypeId) : Bool:=match P.underlying t with | some (.struct _) => true | some (.array _ _) => true | _ => false
def scal (P : Program) (t : TypeId) : Bool:=match P.underlying t with | some (.int _) => true | some .bool => true | _ => false
def eqFs (P : Program) : Nat -> List Field -> Bool
 | _,[] => true
 | i, f :: fs => and (and (Nat.beq f.offset i) (and (not (f.name == "_")) (scal P f.type))) (eqFs P (i + 1) fs)
def eqTy (P : Program) (t : TypeId) (fs : Array Field) : Bool:=and (and (not (P.stoodInHeld t)) (not (P.eqGuardType P.depth t))) (eqFs P 0 fs.toList)
def isPair (P : Program) (t : TypeId) : Bool:=match P.underlying t with
 | some (.array n e) => and (Nat.beq n 2) (and (Nat.beq (P.cellsOf e) 1) (match P.underlying e with | some (.int .i64) => (P.info? e).isSome | _ => false))
 | _ => false
def zeroT (P : Program) (t : TypeId) : Option AV:=match P.info? t with
 | some i => match i.zero with
  | some z => some (ofV z)
  | none => none
 | none => none
def tyOf (P : Program) (t : TypeId) : Option TyI :=
 match P.info? t,P.underlying t with
 | some i,some d =>
  match i.zero with
  | some z => bif Nat.beq z.cells.size i.size then some {
    sz:=i.size,by_:=i.bytes,zv:=ofV z
    sl:=match d with | .slice e => some e | _ => none
    ag:=match d with | .struct _ | .array _ _ => true | _ => false
    lay:=match d with | .struct fs => fs.toList.map fun f => (f.offset,P.cellsOf f.type) | _ => []
    arr:=match d with | .array n e => some (n,P.cellsOf e) | _ => none
    k:=match d with | .int k => some k | _ => none
    bo:=match d with | .bool => true | _ => false
    fo:=match d with | .struct fs => fs.toList.all fun f => (P.info? f.type).isSome | _ => true
    ael:=match d with | .array _ e => some e | _ => none
    eqs:=match d with | .struct fs => (match eqTy P t fs with | true => some (fs.toList.map fun f => isIntT P f.type) | false => none) | _ => none
    fag:=match d with | .struct fs => (match fs.toList.all (fun f => (P.underlying f.type).isSome) with | true => fs.toList.map fun f => isAggT P f.type | false => []) | _ => []
    st:=match d with | .string => true | _ => false
    mp:=match d with | .map k e => (match isPair P k with | true => zeroT P e | false => none) | _ => none
    pt:=match d with | .pointer e => (match P.info? e with | some j => some (some (e,j.size)) | none => none) | .unsafePointer => some none | _ => none } else none
  | none => none
 | _,_ => none
def arrLay : Nat -> Nat -> Nat -> List (Nat × Nat)
 | 0,_,_ => []
 | n + 1,sz,o => (o,sz) :: arrLay n sz (o + sz)
def layOf (i : TyI) : List (Nat × Nat) :=
 match i.lay with
 | [] => match i.arr with
  | some (n,Nat.succ sz) => arrLay n (Nat.succ sz) 0
  | _ => []
 | l => l
def look {α : Type} : List (Nat × α) -> Nat -> Option α
 | [],_ => none
 | (j,v) :: l,k => bif Nat.beq k j then some v else look l k
def nth {α : Type} : List α -> Nat -> Option α
 | [],_ => none
 | v :: l,k => bif Nat.beq k 0 then some v else nth l (Nat.pred k)
def ev (gl : List (Nat × AV)) (s : St) : Operand -> AV
 | .tmp t => s.tm t
 | .const v => ofV v
 | .global g => (look gl g).getD .undef
 | .func f => .fn f []
def evs (gl : List (Nat × AV)) (s : St) : List Operand -> List AV
 | [] => []
 | x :: xs => ev gl s x :: evs gl s xs
def evParts (gl : List (Nat × AV)) (s : St) : List (Nat × Operand) -> List (Nat × AV)
 | [] => []
 | (i,x) :: xs => (i,ev gl s x) :: evParts gl s xs
def eqK (a b : IntKind) : Bool:=decide (a = b)
def eqAll : List Bool -> List AV -> List AV -> (Bool -> Prop) -> Prop
 | [],[],[],K => K true
 | true :: ks,.int k a :: xs,.int k' b :: ys,K => match eqK k k' with | true => eqAll ks xs ys fun r => K (and (a == b) r) | false => False
 | false :: ks,.bool a :: xs,.bool b :: ys,K => eqAll ks xs ys fun r => K (and (a == b) r)
 | _,_,_,_ => False
def bin (tb : Option TyI) (op : BinOp) (x y : AV) (K : AV -> Prop) : Prop :=
 match x with
 | .int k a => match y with
  | .int k' b =>
   match op with
   | .shl => 0 <= b∧K (.int k (k.wrap (a * 2 ^ (min b.toNat k.bits))))
   | .shr => 0 <= b∧K (.int k (a.fdiv (2 ^ (min b.toNat k.bits))))
   | op => match eqK k k' with
    | false => False
    | true => match op with
     | .quo => b ≠ 0∧K (.int k (k.wrap (a.tdiv b)))
     | .rem => b ≠ 0∧K (.int k (a.tmod b))
     | .add => K (.int k (k.wrap (a + b)))
     | .sub => K (.int k (k.wrap (a - b)))
     | .mul => K (.int k (k.wrap (a * b)))
     | .eql => K (.bool (a == b))
     | .neq => K (.bool (a != b))
     | .lss => K (.bool (decide (a < b)))
     | .leq => K (.bool (decide (a <= b)))
     | .gtr => K (.bool (decide (a > b)))
     | .geq => K (.bool (decide (a ≥ b)))
     | .and => K (.int k (Go.bits .and k a b))
     | .or => K (.int k (Go.bits .or k a b))
     | .xor => K (.int k (Go.bits .xor k a b))
     | .andNot => K (.int k (Go.bits .andNot k a b))
     | _ => False
  | _ => False
 | .bool a => match y with
  | .bool b => match tb with
   | some i => match i.bo with
    | true => match op with
     | .eql => K (.bool (a == b))
     | .neq => K (.bool (a != b))
     | _ => False
    | false => False
   | none => False
  | _ => False
 | .str a => match y with
  | .str b => match op with
   | .eql => K (.bool (a.data.toList == b.data.toList))
   | .neq => K (.bool !(a.data.toList == b.data.toList))
   | _ => False
  | _ => False
 | .agg xs => match y with
  | .agg ys => match tb with
   | some i => match i.eqs with
    | some ks => match op with
      | .eql => eqAll ks xs ys fun r => K (.bool r)
      | .neq => eqAll ks xs ys fun r => K (.bool !r)
      | _ => False
    | none => False
   | none => False
  | _ => False
 | _ => False
def un (op : UnOp) (x : AV) (K : AV -> Prop) : Prop :=
 match x with
 | .int k n => match op with | .neg => K (.int k (k.wrap (0 - n))) | _ => False
 | .bool b => match op with | .not => K (.bool !b) | _ => False
 | _ => False
def toD (hp : Nat -> Option Blk) (v : AV) (K : AV -> Prop) : Prop :=
 match v with
 | .int k n => K (.int k n)
 | .bool b => K (.bool b)
 | .str s => K (.str s)
 | .sl rows => K (.sl rows)
 | .nil => K (.sl [])
 | .ms k off len => match hp k with
  | some (.arr _ rows _) => off + len <= rows.length∧K (.sl ((rows.drop off).take len))
  | _ => False
 | _ => False
def toDs (hp : Nat -> Option Blk) : List AV -> (List AV -> Prop) -> Prop
 | [],K => K []
 | v :: vs,K => toD hp v fun d => toDs hp vs fun ds => K (d :: ds)
def toDA (hp : Nat -> Option Blk) (v : AV) (K : AV -> Prop) : Prop :=
 match v with
 | .agg cs => toDs hp cs fun cs => K (.agg cs)
 | .tup _ => False
 | v => toD hp v K
def toDAs (hp : Nat -> Option Blk) : List AV -> (List AV -> Prop) -> Prop
 | [],K => K []
 | v :: vs,K => toDA hp v fun d => toDAs hp vs fun ds => K (d :: ds)
def toW (hp : Nat -> Option Blk) (v : AV) (K : AV -> Prop) : Prop :=
 match v with
 | .ms k off len => match hp k with
  | some (.own _ cs) => off + len <= cs.length∧toDs hp ((cs.drop off).take len) fun ds => K (.sl (ds.map fun d => [d]))
  | _ => toD hp (.ms k off len) K
 | v => toDA hp v K
def toWs (hp : Nat -> Option Blk) : List AV -> (List AV -> Prop) -> Prop
 | [],K => K []
 | v :: vs,K => toW hp v fun d => toWs hp vs fun ds => K (d :: ds)
def toWR (hp : Nat -> Option Blk) (v : AV) (K : AV -> Prop) : Prop :=
 match v with
 | .tup vs => toWs hp vs fun vs => K (.tup vs)
 | v => toW hp v K
def toP (hp : Nat -> Option Blk) (v : AV) (K : AV -> Prop) : Prop :=
 match v with
 | .ms k off len => match hp k with
  | some (.box cs) => (Nat.ble cs.length 65536 = true∧off + len <= cs.length)∧toDs (fun _ => none) ((cs.drop off).take len) fun ds => K (.sl (ds.map fun d => [d]))
  | _ => toD hp (.ms k off len) K
 | v => toDA hp v K
def toPs (hp : Nat -> Option Blk) : List AV -> (List AV -> Prop) -> Prop
 | [],K => K []
 | v :: vs,K => toP hp v fun d => toPs hp vs fun ds => K (d :: ds)
def isBox (hp : Nat -> Option Blk) (v : AV) : Bool :=
 match v with
 | .ms k _ _ => match hp k with
  | some (.box _) => true
  | _ => false
 | _ => false
def boxy (hp : Nat -> Option Blk) : List AV -> Bool
 | [] => false
 | v :: vs => or (isBox hp v) (boxy hp vs)
def keys : AV -> List Nat
 | .ms k _ _ => [k]
 | _ => []
def keysL : List AV -> List Nat
 | [] => []
 | v :: vs => keys v ++ keysL vs
def keysA : AV -> List Nat
 | .agg cs => keysL cs
 | v => keys v
def keysAs : List AV -> List Nat
 | [] => []
 | v :: vs => keysA v ++ keysAs vs
def keysW (hp : Nat -> Option Blk) (v : AV) : List Nat :=
 match v with
 | .ms k off len => match hp k with
  | some (.own _ cs) => k :: keysL ((cs.drop off).take len)
  | _ => [k]
 | v => keysA v
def keysWs (hp : Nat -> Option Blk) : List AV -> List Nat
 | [] => []
 | v :: vs => keysW hp v ++ keysWs hp vs
def keysWR (hp : Nat -> Option Blk) : AV -> List Nat
 | .tup vs => keysWs hp vs
 | v => keysW hp v
def memN (j : Nat) : List Nat -> Bool
 | [] => false
 | k :: ks => or (Nat.beq j k) (memN j ks)
def frzB : Option Blk -> Option Blk
 | some (.arr sz rows _) => some (.arr sz rows false)
 | b => b
def frz (ks : List Nat) (hp : Nat -> Option Blk) : Nat -> Option Blk :=
 match ks with
 | [] => hp
 | ks => fun j => bif memN j ks then frzB (hp j) else hp j
def frzC : Option Blk -> Option Blk
 | some (.own _ _) => none
 | b => frzB b
def frzW (ks : List Nat) (hp : Nat -> Option Blk) : Nat -> Option Blk :=
 match ks with
 | [] => hp
 | ks => fun j => bif memN j ks then frzC (hp j) else hp j
def takeL : Nat -> List AV -> List AV
 | 0,_ => []
 | _ + 1,[] => []
 | n + 1,v :: l => v :: takeL n l
def dropL : Nat -> List AV -> List AV
 | 0,l => l
 | _ + 1,[] => []
 | n + 1,_ :: l => dropL n l
def appL : List AV -> List AV -> List AV
 | [],m => m
 | v :: l,m => v :: appL l m
def lenL : List AV -> Nat
 | [] => 0
 | _ :: l => Nat.succ (lenL l)
def fillA (lay : List (Nat × Nat)) : List (Nat × AV) -> List AV -> (List AV -> Prop) -> Prop
 | [],cs,K => forceL cs K
 | (i,v) :: rest,cs,K =>
  match nth lay i with
  | some (off,size) => match and (and (Nat.beq (lenL (cells v)) size) (Nat.ble (off + size) (lenL cs))) (ones (cells v)) with
   | true => fillA lay rest (appL (takeL off cs) (appL (cells v) (dropL (off + size) cs))) K
   | false => False
  | none => False
def keysP : List (Nat × AV) -> List Nat
 | [] => []
 | (_,v) :: ps => keysL (cells v) ++ keysP ps
def fillR (hp : Nat -> Option Blk) (size : Nat) : List (Nat × AV) -> List (List AV) -> (List (List AV) -> Prop) -> Prop
 | [],rows,K => K rows
 | (i,v) :: rest,rows,K => toDs hp (cells v) fun cs =>
  match and (Nat.beq (lenL cs) size) (Nat.ble (i + 1) rows.length) with
  | true => fillR hp size rest (rows.set i cs) K
  | false => False
def rd (ag : Bool) (sz : Nat) (row : List AV) (o : Nat) (K : AV -> Prop) : Prop :=
 match ag with
 | false => match nth row o with | some v => force v K | none => False
 | true => match Nat.ble (o + sz) (lenL row) with
  | true => forceL (takeL sz (dropL o row)) fun cs => K (.agg cs)
  | false => False
def inLim (lim : Option (Nat -> Bool)) (k : Nat) (K : Prop) : Prop:=match lim with | none => K | some p => p k = true∧K
theorem inLim_out {lim : Option (Nat -> Bool)} {k : Nat} {K : Prop} (h : inLim lim k K) : K:=by
 unfold inLim at h
 split at h
 ·exact h
 ·exact h.2
section
variable (T : List (Nat × TyI)) (gl : List (Nat × AV)) (H : Tg -> List AV -> St -> (AV -> St -> Prop) -> Prop)
def aLoad (lim : Option (Nat -> Bool)) (t : TypeId) (a : AV) (s : St) (K : AV -> Prop) : Prop :=
 match look T t with
 | none => False
 | some i => match a with
  | .bp k o => inLim lim k (match s.hp k with | some (.box cs) => rd i.ag i.sz cs o K | some (.own _ cs) => rd i.ag i.sz cs o K | _ => False)
  | .ap k r o => inLim lim k (match s.hp k with | some (.arr _ rows _) => ∃ row,rows[r]? = some row∧rd i.ag i.sz row o K | _ => False)
  | .er row o => rd i.ag i.sz row o K
  | _ => False
def aStore (t : TypeId) (a v : AV) (s : St) (K : St -> Prop) : Prop :=
 match look T t with
 | none => False
 | some i => match Nat.beq i.sz (lenL (cells v)) with
  | false => False
  | true => match a with
   | .bp k o => match s.hp k with
    | some (.box cs) => match and (ones (cells v)) (Nat.ble (o + lenL (cells v)) (lenL cs)) with
     | true => forceL (appL (takeL o cs) (appL (cells v) (dropL (o + lenL (cells v)) cs))) fun cs => K (setB k (some (.box cs)) s)
     | false => False
    | some (.own et cs) => match and (ones (cells v)) (Nat.ble (o + lenL (cells v)) (lenL cs)) with
     | true => forceL (appL (takeL o cs) (appL (cells v) (dropL (o + lenL (cells v)) cs))) fun cs => K (setB k (some (.own et cs)) s)
     | false => False
    | _ => False
   | .ap k r o => match s.hp k with
    | some (.arr sz rows true) => ∃ row,rows[r]? = some row∧toDs (upd k none s.hp) (cells v) fun cs => match Nat.ble (o + lenL cs) (lenL row) with
            | true => forceL (appL (takeL o row) (appL cs (dropL (o + lenL cs) row))) fun row => K (setB k (some (.arr sz (rows.set r row) true)) ⟨s.tm,frz (keysL (cells v)) s.hp,s.nx⟩)
            | false => False
    | _ => False
   | _ => False
def lenOf (x : AV) (K : Nat -> Prop) : Prop :=
 match x with
 | .sl rows => K rows.length
 | .nil => K 0
 | .ms _ _ n => K n
 | _ => False
def RowsOk (sz : Nat) (rows : List (List AV)) : Prop:=∀ row ∈ rows,row.length = sz
def aSliceArr (lim : Option (Nat -> Bool)) (t : TypeId) (x : AV) (s : St) (K : AV -> Prop) : Prop :=
 match (look T t).bind fun i => i.arr with
 | some (n,1) => match x with
  | .bp k 0 => inLim lim k (match s.hp k with
   | some (.box cs) => match Nat.beq (lenL cs) n with
    | true => K (.ms k 0 n)
    | false => False
   | _ => False)
  | _ => False
 | _ => False
def aSlice (lim : Option (Nat -> Bool)) (t : TypeId) (x : AV) (lo hi : Option AV) (s : St) (K : AV -> Prop) : Prop :=
 match ((look T t).bind fun i => i.sl).bind (look T) with
 | none => match lo,hi with
  | none,none => aSliceArr T lim t x s K
  | _,_ => False
 | some e => lenOf x fun n =>
  (match hi with
   | none => fun k : Nat -> Prop => k n
   | some (.int _ h) => fun k => 0 <= h∧h <= n∧k h.toNat
   | _ => fun _ => False) fun h =>
  (match lo with
   | none => fun k : Nat -> Prop => k 0
   | some (.int _ l) => fun k => 0 <= l∧l <= h∧k l.toNat
   | _ => fun _ => False) fun l =>
  match x with
  | .sl rows => RowsOk e.sz rows∧K (.sl ((rows.take h).drop l))
  | .ms k off _ => inLim lim k (match s.hp k with
   | some (.arr sz _ _) => match Nat.beq sz.2 e.sz with
    | true => K (.ms k (off + l) (h - l))
    | false => False
   | some (.own _ _) => match Nat.beq 1 e.sz with
    | true => K (.ms k (off + l) (h - l))
    | false => False
   | _ => False)
  | .nil => K .nil
  | _ => False
def aIndexAddr (lim : Option (Nat -> Bool)) (t : TypeId) (x i : AV) (s : St) (K : AV -> Prop) : Prop :=
 match look T t with
 | none => False
 | some ty => match i with
  | .int _ i => match x with
   | .sl rows => match ty.sl.bind (look T) with
    | some e => 0 <= i∧∃ row,rows[i.toNat]? = some row∧match Nat.beq (lenL row) e.sz with | true => K (.er row 0) | false => False
    | none => False
   | .ms k off n => match ty.sl.bind (look T) with
    | some e => inLim lim k (match s.hp k with
     | some (.arr sz _ _) => match Nat.beq sz.2 e.sz with
      | true => 0 <= i∧i < n∧K (.ap k (off + i.toNat) 0)
      | false => False
     | some (.own _ _) => match Nat.beq 1 e.sz with
      | true => 0 <= i∧i < n∧K (.bp k (off + i.toNat))
      | false => False
     | some (.box _) => match Nat.beq 1 e.sz with
      | true => 0 <= i∧i < n∧K (.bp k (off + i.toNat))
      | false => False
     | _ => False)
    | none => False
   | .bp k o => match ty.arr with | some (n,Nat.succ sz) => 0 <= i∧i < n∧K (.bp k (o + i.toNat * Nat.succ sz)) | _ => False
   | .ap k r o => match ty.arr with | some (n,Nat.succ sz) => 0 <= i∧i < n∧K (.ap k r (o + i.toNat * Nat.succ sz)) | _ => False
   | .er row o => match ty.arr with | some (n,Nat.succ sz) => 0 <= i∧i < n∧K (.er row (o + i.toNat * Nat.succ sz)) | _ => False
   | _ => False
  | _ => False
def aFieldAddr (t : TypeId) (x : AV) (f : Nat) (K : AV -> Prop) : Prop :=
 match (look T t).bind fun i => nth i.lay f with
 | some (off,Nat.succ _) => match x with
  | .bp k o => K (.bp k (Nat.add o off))
  | .ap k r o => K (.ap k r (Nat.add o off))
  | .er row o => K (.er row (Nat.add o off))
  | _ => False
 | _ => False
def rowsOf (hp : Nat -> Option Blk) (sz : Nat) (y : AV) (K : List (List AV) -> Prop) : Prop :=
 match y with
 | .nil => K []
 | .sl rows => RowsOk sz rows∧K rows
 | .ms k off n => match hp k with
  | some (.arr sz' rows _) => match Nat.beq sz sz'.2 with
   | false => False
   | true => off + n <= rows.length∧K ((rows.drop off).take n)
  | _ => False
 | _ => False
def cellsOf (hp : Nat -> Option Blk) (y : AV) (K : List AV -> Prop) : Prop :=
 match y with
 | .nil => K []
 | .sl rows => RowsOk 1 rows∧K rows.flatten
 | .ms k off n => match hp k with
  | some (.own _ cs) => off + n <= cs.length∧forceL ((cs.drop off).take n) K
  | some (.arr sz rows _) => match Nat.beq 1 sz.2 with
   | true => off + n <= rows.length∧K ((rows.drop off).take n).flatten
   | false => False
  | _ => False
 | _ => False
def aAppendO (et : Nat) (by_ : Nat) (x y : AV) (s : St) (K : AV -> St -> Prop) : Prop :=
 match x with
 | .nil => match y with
  | .nil => K .nil s
  | y => cellsOf s.hp y fun cs => cs ≠ []∧cs.length * by_ <= 140737488355328∧cs.length <= maxLen∧K (.ms s.nx 0 cs.length) (alloc (.own et cs) s)
 | .ms k 0 n => match s.hp k with
  | some (.own et' cs) => match Nat.beq et' et with
   | true => n = cs.length∧cellsOf s.hp y fun cs' => (n + cs'.length) * by_ <= 140737488355328∧n + cs'.length <= maxLen ∧
     forceL (appL cs cs') fun cs2 => K (.ms s.nx 0 (n + cs'.length)) (alloc (.own et cs2) (setB k none s))
   | false => False
  | _ => False
 | _ => False
def aAppend (t : TypeId) (x y : AV) (s : St) (K : AV -> St -> Prop) : Prop :=
 match (look T t).bind fun i => i.sl with
 | none => False
 | some et => match look T et with
  | none => False
  | some e => match Nat.ble 1 e.sz with
   | false => False
   | true => match e.sl with
    | some _ => match Nat.beq e.sz 1 with
     | true => aAppendO et e.by_ x y s K
     | false => False
    | none => match x with
     | .nil => match y with
      | .nil => K .nil s
      | .sl rows => rows.length * e.by_ <= 140737488355328∧rows.length <= maxLen∧RowsOk e.sz rows∧K (.sl rows) s
      | .ms _ _ n => 0 < n∧n * e.by_ <= 140737488355328∧n <= maxLen∧rowsOf s.hp e.sz y fun rows => K (.ms s.nx 0 n) (alloc (.arr (et,e.sz) rows true) s)
      | _ => False
     | .ms k 0 n => match s.hp k with
      | some (.arr sz rows true) => match and (Nat.beq sz.1 et) (Nat.beq sz.2 e.sz) with
       | true => n = rows.length∧rowsOf s.hp e.sz y fun rows' =>
             (n + rows'.length) * e.by_ <= 140737488355328∧n + rows'.length <= maxLen ∧
             K (.ms s.nx 0 (n + rows'.length)) (alloc (.arr (et,e.sz) (rows ++ rows') true) (setB k none s))
       | false => False
      | some (.box []) => match y with
       | .sl rows => rows.length * e.by_ <= 140737488355328∧rows.length <= maxLen∧RowsOk e.sz rows∧K (.sl rows) s
       | _ => False
      | _ => False
     | _ => False
def aCopy (t : TypeId) (x y : AV) (s : St) (K : AV -> St -> Prop) : Prop :=
 match ((look T t).bind fun i => i.sl).bind (look T) with
 | none => False
 | some e => match Nat.beq e.sz 1 with
  | false => False
  | true => match x with
   | .ms k off n => match s.hp k with
    | some (.arr sz rows true) => match Nat.beq sz.2 1 with
     | false => False
     | true => rowsOf s.hp 1 y fun rows' => off + n <= rows.length ∧
       K (.int .i64 (min rows'.length n : Nat)) (setB k (some (.arr sz (rows.take off ++ rows'.take n ++ rows.drop (off + min rows'.length n)) true)) s)
    | _ => False
   | _ => False
def mm2 (mx : Bool) (a b : Int) : Int :=
 match mx with
 | true => if a < b then b else a
 | false => if b < a then b else a
def aMinMax (mx : Bool) (vs : List AV) (K : AV -> Prop) : Prop :=
 match vs with
 | [.int k a,.int _ b] => match mx with
  | true => K (.int k (if a < b then b else a))
  | false => K (.int k (if b < a then b else a))
 | [.int k a,.int _ b,.int _ c] => K (.int k (mm2 mx (mm2 mx a b) c))
 | [.int k a,.int _ b,.int _ c,.int _ d] => K (.int k (mm2 mx (mm2 mx (mm2 mx a b) c) d))
 | _ => False
def aMakeSlice (t : TypeId) (len cap : AV) (s : St) (K : AV -> St -> Prop) : Prop :=
 match (look T t).bind fun i => i.sl with
 | none => False
 | some et => match look T et with
  | none => False
  | some e => match len with
   | .int _ n => match cap with
    | .int _ c => match e.sl with
     | some _ => match e.zv with
      | .nil => 0 <= n∧n <= c∧c * e.by_ <= 140737488355328∧c <= maxLen∧K (.ms s.nx 0 n.toNat) (alloc (.own et (List.replicate n.toNat .nil)) s)
      | _ => False
     | none => toDs s.hp (cells e.zv) fun row => match and (Nat.ble 1 e.sz) (Nat.beq (lenL row) e.sz) with
     | true => 0 <= n∧n <= c∧c * e.by_ <= 140737488355328∧c <= maxLen∧K (.ms s.nx 0 n.toNat) (alloc (.arr (et,e.sz) (List.replicate n.toNat row) true) s)
     | false => False
    | _ => False
   | _ => False
def fillO : List (Nat × AV) -> List AV -> (List AV -> Prop) -> Prop
 | [],cs,K => forceL cs K
 | (i,v) :: rest,cs,K => force v fun v => match and (one v) (Nat.ble (i + 1) (lenL cs)) with
  | true => fillO rest (cs.set i v) K
  | false => False
def aBuildSlice (t : TypeId) (n : Nat) (ps : List (Nat × AV)) (s : St) (K : AV -> St -> Prop) : Prop :=
 match (look T t).bind fun i => i.sl with
 | none => False
 | some et => match look T et with
  | none => False
  | some e => match e.sl with
   | some _ => match e.zv with
    | .nil => match Nat.ble n 65536 with
     | true => fillO ps (List.replicate n .nil) fun cs => K (.ms s.nx 0 n) (alloc (.own et cs) s)
     | false => False
    | _ => False
   | none => toDs s.hp (cells e.zv) fun row => match and (and (Nat.ble 1 e.sz) (Nat.beq (lenL row) e.sz)) (Nat.ble (n * e.sz) 65536) with
    | true => fillR s.hp e.sz ps (List.replicate n row) fun rows => K (.ms s.nx 0 n) (alloc (.arr (et,e.sz) rows true) ⟨s.tm,frz (keysP ps) s.hp,s.nx⟩)
    | false => False
def aIndex (t : TypeId) (x i : AV) (K : AV -> Prop) : Prop :=
 match look T t with
 | none => False
 | some ty => match ty.arr with
  | none => False
  | some (n,_) => match ty.ael.bind (look T) with
   | none => False
   | some e => match and (Nat.beq e.sz 1) (not e.ag) with
    | false => match e.ag with
     | false => False
     | true => match x with
          | .agg cs => match i with
           | .int _ i => 0 <= i∧i < n∧rd true e.sz cs (i.toNat * e.sz) K
           | _ => False
          | _ => False
    | true => match x with
     | .agg cs => match i with
          | .int _ i => 0 <= i∧i < n∧∃ v,cs[i.toNat]? = some v∧force v K
          | _ => False
     | _ => False
def aIndexS (t : TypeId) (b : ByteArray) (i : AV) (K : AV -> Prop) : Prop :=
 match look T t with
 | none => False
 | some ty => match ty.st with
  | false => False
  | true => match i with
   | .int _ i => 0 <= i∧∃ c,b[i.toNat]? = some c∧K (.int .u8 c.toNat)
   | _ => False
def aIndexU (t : TypeId) (x i : AV) (K : AV -> Prop) : Prop :=
 match x with
 | .str b => aIndexS T t b i K
 | x => aIndex T t x i K
def pickA (t : Bool) (x y : AV) (K : AV -> Prop) : Prop :=
 match x with
 | .bool a => match y with
  | .bool b => K (.bool (bif t then a else b))
  | _ => (t = true -> K (.bool a))∧(t = false -> force y K)
 | x => (t = true -> force x K)∧(t = false -> force y K)
def aField (t : TypeId) (x : AV) (f : Nat) (K : AV -> Prop) : Prop :=
 match look T t with
 | none => False
 | some i => match i.fo with
  | false => False
  | true => match nth i.lay f with
   | none => False
   | some (off,size) => match nth i.fag f with
    | none => False
    | some ag => match x with
     | .agg cs => rd ag size cs off K
     | _ => False
def numsOf : List (List AV) -> Option (List Int)
 | [] => some []
 | [.int .u8 n] :: rows => match numsOf rows with
  | some l => some (n :: l)
  | none => none
 | _ :: _ => none
def strN (l : List Int) : ByteArray:=⟨(l.map fun n => UInt8.ofNat n.toNat).toArray⟩
def aStrOf (src d : TypeId) (x : AV) (K : AV -> Prop) : Prop :=
 match ((look T src).bind fun i => i.sl).bind (look T) with
 | none => False
 | some e => match e.k with
  | some .u8 => match look T d with
   | none => False
   | some i => match i.st with
    | false => False
    | true => match x with
     | .sl (r :: rows) => match numsOf (r :: rows) with
            | some l => K (.str (strN l))
            | none => False
     | _ => False
  | _ => False
def aStrM (src d : TypeId) (x : AV) (s : St) (K : AV -> Prop) : Prop :=
 match x with
 | .ms k off n => toD s.hp (.ms k off n) fun v => aStrOf T src d v K
 | x => aStrOf T src d x K
def aOp (lim : Option (Nat -> Bool)) (o : Oper) (s : St) (K : St -> Prop) : Prop :=
 match o.op with
 | .move x | .assign x => force (ev gl s x) fun v => K (put o.dst v s)
 | .pick c a b => match ev gl s c with | .bool t => pickA t (ev gl s a) (ev gl s b) fun v => K (put o.dst v s) | _ => False
 | .alloc e => match look T e with
  | some i => match ones (cells i.zv) with | true => K (put o.dst (.bp s.nx 0) (alloc (.box (cells i.zv)) s)) | false => False
  | none => False
 | .box _ x => forceL (cells (ev gl s x)) fun cs => match ones cs with | true => K (put o.dst (.bp s.nx 0) (alloc (.box cs) s)) | false => False
 | .build t ps => match look T t with
  | some i => match layOf i with
   | [] => False
   | _ :: _ => match and i.fo (ones (cells i.zv)) with | true => fillA (layOf i) (evParts gl s ps.toList) (cells i.zv) fun cs => K (put o.dst (.agg cs) s) | false => False
  | none => False
 | .buildSlice t n ps => aBuildSlice T t n (evParts gl s ps.toList) s fun v s' => K (put o.dst v s')
 | .load t a => aLoad T lim t (ev gl s a) s fun v => K (put o.dst v s)
 | .store t a x => force (ev gl s x) fun v => aStore T t (ev gl s a) v s fun s' => K (put o.dst .undef s')
 | .nilCheck x => match ev gl s x with | .bp k i => K (put o.dst (.bp k i) s) | .ap k r i => K (put o.dst (.ap k r i) s) | .er row i => K (put o.dst (.er row i) s) | .fn f c => K (put o.dst (.fn f c) s) | _ => False
 | .binOp op t x y _ => bin (look T t) op (ev gl s x) (ev gl s y) fun v => K (put o.dst v s)
 | .unOp op _ x => un op (ev gl s x) fun v => K (put o.dst v s)
 | .convert src d x => match (look T d).bind fun i => i.k with
  | some k => match ev gl s x with | .int _ n => K (put o.dst (.int k (k.wrap n)) s) | _ => False
  | none => aStrOf T src d (ev gl s x) fun v => K (put o.dst v s)
 | .makeFunc (.func f) ⟨[]⟩ cap => forceL (evs gl s cap.toList) fun cs => K (put o.dst (.fn f cs) s)
 | .makeSlice t l c => aMakeSlice T t (ev gl s l) (ev gl s c) s fun v s' => K (put o.dst v s')
 | .slice t x lo hi none => aSlice T lim t (ev gl s x) (lo.map (ev gl s)) (hi.map (ev gl s)) s fun v => K (put o.dst v s)
 | .fieldAddr t x f => aFieldAddr T t (ev gl s x) f fun v => K (put o.dst v s)
 | .indexAddr t x i => aIndexAddr T lim t (ev gl s x) (ev gl s i) s fun v => K (put o.dst v s)
 | .index t x i => aIndexU T t (ev gl s x) (ev gl s i) fun v => K (put o.dst v s)
 | .field t x f => aField T t (ev gl s x) f fun v => K (put o.dst v s)
 | .extract x i => match ev gl s x with | .tup vs => (match nth vs i with | some v => force v fun v => K (put o.dst v s) | none => False) | _ => False
 | .typeAssert x _ t true => match ev gl s x with
  | .lit (.iface t' v) => match look T t with
   | some i => match and i.ag (Nat.beq t' t) with | true => K (put o.dst (.tup [ofV v,.bool true]) s) | false => False
   | none => False
  | _ => False
 | .call { callee:=.builtin b,args,argTypes } =>
  match b,evs gl s args.toList,argTypes.toList with
  | .len,[x],[t] => (match (look T t).bind fun i => i.sl with | some _ => lenOf x fun n => K (put o.dst (.int .i64 n) s) | none => False)
  | .append,[x,y],[t,u] => (match Nat.beq t u with | true => aAppend T t x y s fun v s' => K (put o.dst v s') | false => False)
  | .copy,[x,y],[t,_] => aCopy T t x y s fun v s' => K (put o.dst v s')
  | .min,vs,_ => aMinMax false vs fun v => K (put o.dst v s)
  | .max,vs,_ => aMinMax true vs fun v => K (put o.dst v s)
  | _,_,_ => False
 | .call { callee:=.value f,args,argTypes:=_ } => match ev gl s f with
  | .fn f cap => forceL (evs gl s args.toList) fun vs => H (.fn f) (appL vs cap) s fun v s' => K (put o.dst v s')
  | .yl l => forceL (evs gl s args.toList) fun vs => H (.yl l) vs s fun v s' => K (put o.dst v s')
  | _ => False
 | _ => False
def deferR : List Oper -> Option (Nat × Nat × List Operand)
 | [⟨some d,.makeFunc (.func f) ⟨[]⟩ cap,_,_,_,none⟩,⟨none,.defer ⟨.value (.tmp e),⟨[]⟩,_⟩,_,_,_,none⟩] => match Nat.beq d e with | true => some (d,f,cap.toList) | false => none
 | _ => none
def guardOf (ops : Array Oper) (o : Oper) : Option (Option Nat × Bool) :=
 match o.guard with
 | none => none
 | some (j,want) => some ((nth ops.toList j).bind (·.dst),want)
end
section
variable (T : List (Nat × TyI)) (gl : List (Nat × AV)) (HD H : Tg -> List AV -> St -> (AV -> St -> Prop) -> Prop)
def pureOp : Op -> Bool
 | .move _ | .assign _ | .pick .. | .build .. | .nilCheck _ | .binOp .. | .unOp .. | .convert .. | .makeFunc .. | .fieldAddr .. | .index .. | .field .. | .extract .. => true
 | .call { callee:=.builtin .len,.. } | .call { callee:=.builtin .min,.. } | .call { callee:=.builtin .max,.. } => true
 | _ => false
def readOp : Op -> Bool
 | .load .. | .slice .. | .indexAddr .. => true
 | _ => false
def turnsOp : Op -> Bool
 | .alloc _ | .box .. | .buildSlice .. | .makeSlice .. | .store .. => true
 | .call { callee:=.value _,.. } | .call { callee:=.builtin .append,.. } => true
 | _ => false
def keyOf : AV -> List Nat
 | .bp k _ => [k]
 | .ap k _ _ => [k]
 | .ms k _ _ => [k]
 | _ => []
def touch (op : Op) (s : St) : List Nat :=
 match op with
 | .alloc _ | .box .. | .buildSlice .. | .makeSlice .. => [s.nx]
 | .store _ a _ => keyOf (ev gl s a)
 | .call { callee:=.builtin .append,args:=args,argTypes:=_ } => match args.toList with
  | x :: _ => s.nx :: keyOf (ev gl s x)
  | [] => []
 | _ => []
def young (chk : Bool) (p : Nat -> Bool) (op : Op) (s : St) (X : Prop) : Prop :=
 match turnsOp op with
 | false => X
 | true => match chk with
  | false => X
  | true => match (touch gl op s).all fun k => not (p k) with
   | true => X
   | false => False
end
section
variable (T : List (Nat × TyI)) (gl : List (Nat × AV)) (HD H : Tg -> List AV -> St -> (AV -> St -> Prop) -> Prop)
structure Fl where
 hs : Bool
 lim : Bool
 chk : Bool
 /-- the key that is kept for it (counted from the region's start) -/
 ky : Option Nat:=none
 /-- what it is handed is older than the region -/
 old : Bool:=false
 /-- a slice that is made to be turned into a string -/
 fz : Bool:=false
 /-- the next key at the region's start -/
 lo : Nat:=0
mutual
def bl (n : Nat) : AV -> Bool
 | .bp k _ => Nat.blt k n
 | .ap k _ _ => Nat.blt k n
 | .ms k _ _ => Nat.blt k n
 | .mv k => Nat.blt k n
 | .fn _ cap => bls n cap
 | .agg cs => bls n cs
 | .tup cs => bls n cs
 | _ => true
def bls (n : Nat) : List AV -> Bool
 | [] => true
 | v :: vs => and (bl n v) (bls n vs)
end
def blB (n : Nat) : Option Blk -> Bool
 | some (.box cs) => bls n cs
 | some (.own _ cs) => bls n cs
 | _ => true
def aRes (k : Nat) (o : Oper) (s : St) (K : St -> Prop) : Prop :=
 match s.hp k with
 | some .res => match o.guard with
  | none => match o.op with
   | .alloc e => match look T e with
    | some i => match and (ones (cells i.zv)) (bls 0 (cells i.zv)) with
          | true => K (put o.dst (.bp k 0) ⟨s.tm,upd k (some (.box (cells i.zv))) s.hp,s.nx⟩)
          | false => False
    | none => False
   | .buildSlice t n ps => match n with
    | 0 => match ps.toList with
          | [] => match (look T t).bind fun i => i.sl with
           | some et => match look T et with
            | some e => match e.sl with
             | none => K (put o.dst (.ms k 0 0) ⟨s.tm,upd k (some (.box [])) s.hp,s.nx⟩)
             | some _ => False
            | none => False
           | none => False
          | _ => False
    | _ => False
   | _ => False
  | some _ => False
 | _ => False
def aFz (o : Oper) (s : St) (K : St -> Prop) : Prop :=
 match o.op with
 | .buildSlice t n ps => match (look T t).bind fun i => i.sl with
  | none => False
  | some et => match look T et with
   | none => False
   | some e => match e.sl with
    | some _ => False
    | none => toDs (fun _ => none) (cells e.zv) fun row => match and (and (Nat.ble 1 e.sz) (Nat.beq (lenL row) e.sz)) (Nat.ble (n * e.sz) 65536) with
     | true => fillR (fun _ => none) e.sz (evParts gl s ps.toList) (List.replicate n row) fun rows => K (put o.dst (.sl rows) s)
     | false => False
 | _ => False
def okCh (lo : Nat) (p : Nat -> Bool) : Option (Nat × Blk) -> Bool
 | none => true
 | some (j,_) => and (Nat.blt j lo) (not (p j))
def chH : Option (Nat × Blk) -> (Nat -> Option Blk) -> Nat -> Option Blk
 | none,hp => hp
 | some (j,b),hp => upd j (some b) hp
def aOpO (old : Bool) (lo : Nat) (p : Nat -> Bool) (HH HE : Tg -> List AV -> St -> (AV -> St -> Prop) -> Prop) (lim : Option (Nat -> Bool)) (o : Oper) (s : St) (K : St -> Prop) : Prop :=
 match old with
 | false => aOp T gl HH lim o s K
 | true => match o.op with
  | .call { callee:=.value f,args:=args,argTypes:=_ } => match ev gl s f with
   | .fn g cap => match (keysAs (appL (evs gl s args.toList) cap)).all p with
    | true => match ptrs (appL (evs gl s args.toList) cap) with
          | false => aOp T gl HH lim o s K
          | true => (∀ k,k < s.nx -> blB s.nx (s.hp k) = true)∧∃ r ch,okCh lo p ch = true∧K (put o.dst r ⟨s.tm,chH ch s.hp,s.nx⟩)∧∀ tm hp,(∀ k,Nat.blt k lo = true -> hp k = s.hp k) -> (∀ k,k < s.nx -> blB s.nx (hp k) = true) -> (∀ k,s.nx <= k -> hp k = none) -> ∀ K' : AV -> St -> Prop,K' r ⟨tm,chH ch hp,s.nx⟩ -> HE (.fn g) (appL (evs gl s args.toList) cap) ⟨tm,hp,s.nx⟩ K'
    | false => False
   | _ => False
  | _ => False
def pairOf : AV -> Option (Int × Int)
 | .agg [.int .i64 a,.int .i64 b] => some (a,b)
 | _ => none
def eqP (x y : Int × Int) : Bool:=and (x.1 == y.1) (x.2 == y.2)
def findP (x : Int × Int) : List ((Int × Int) × AV) -> Option AV
 | [] => none
 | (k,v) :: es => match eqP x k with | true => some v | false => findP x es
def setP (x : Int × Int) (v : AV) : List ((Int × Int) × AV) -> List ((Int × Int) × AV)
 | [] => [(x,v)]
 | (k,u) :: es => match eqP x k with | true => (k,v) :: es | false => (k,u) :: setP x v es
def plainV : AV -> Bool
 | .int _ _ => true
 | .bool _ => true
 | _ => false
def spOp (op : Op) : Bool :=
 match op with
 | .makeMap _ none => true
 | .lookup .. => true
 | .mapUpdate .. => true
 | .call { callee:=.builtin .len,args:=_,argTypes:=ts } => match ts.toList with
  | [t] => match (look T t).bind fun i => i.mp with | some _ => true | none => match look T t with | some i => i.st | none => false
  | _ => false
 | .alloc e => match (look T e).bind fun i => some i.zv with | some (.agg (.lit _ :: _)) => true | _ => false
 | .convert _ d _ => or ((look T d).bind fun i => i.pt).isSome (match look T d with | some i => i.st | none => false)
 | .binOp op t _ _ _ => match op with
  | .add => match look T t with | some i => i.st | none => false
  | .eql => or ((look T t).bind fun i => i.pt).isSome ((look T t).bind fun i => i.sl).isSome
  | .neq => or ((look T t).bind fun i => i.pt).isSome ((look T t).bind fun i => i.sl).isSome
  | _ => false
 | .slice t _ _ _ none => match look T t with | some i => i.st | none => false
 | .call { callee:=.builtin .append,args:=_,argTypes:=ts } => match ts.toList with
  | [_,u] => match look T u with | some i => i.st | none => false
  | _ => false
 | _ => false
def aAllocT (e : TypeId) (s : St) (K : AV -> St -> Prop) : Prop :=
 match look T e with
 | some i => match ones (cells i.zv) with
  | true => match Nat.ble (lenL (cells i.zv)) 65536 with
   | true => K (.bp s.nx 0) (alloc (.own e (cells i.zv)) s)
   | false => False
  | false => False
 | none => False
def aConvP (t d : TypeId) (x : AV) (s : St) (K : AV -> Prop) : Prop :=
 match x with
 | .bp k 0 => match s.hp k with
  | some (.own e (_ :: cs)) => match (look T t).bind fun i => i.pt with
   | some none => match (look T d).bind fun i => i.pt with
    | some (some (u,Nat.succ n)) => match and (Nat.beq e u) (Nat.ble n (lenL cs)) with
     | true => K (.bp k 0)
     | false => False
    | _ => False
   | some (some (_,Nat.succ _)) => match (look T d).bind fun i => i.pt with
    | some none => K (.bp k 0)
    | _ => False
   | _ => False
  | _ => False
 | _ => False
def aPtrEq (t : TypeId) (x y : AV) (K : Bool -> Prop) : Prop :=
 match (look T t).bind fun i => i.pt with
 | some (some (_,Nat.succ _)) => match x with
  | .lit (.pointer none) => match y with
   | .lit (.pointer none) => K true
   | .bp _ _ => K false
   | _ => False
  | .bp k i => match y with
   | .lit (.pointer none) => K false
   | .bp k' i' => match and (Nat.beq k k') (Nat.beq i i') with | true => K true | false => False
   | _ => False
  | _ => False
 | _ => False
def aSliceNil (x y : AV) (K : Bool -> Prop) : Prop :=
 match y with
 | .nil => match x with
  | .nil => K true
  | .sl rows => match rows with | [] => K true∧K false | _ :: _ => K false
  | .ms _ _ n => match n with | Nat.succ _ => K false | _ => False
  | _ => False
 | _ => False
def aEq2 (t : TypeId) (x y : AV) (K : Bool -> Prop) : Prop :=
 match (look T t).bind fun i => i.sl with
 | some _ => aSliceNil x y K
 | none => aPtrEq T t x y K
def aStrAdd (x y : AV) (K : AV -> Prop) : Prop :=
 match x with
 | .str a => match y with
  | .str b => match Nat.ble (a.data.toList.length + b.data.toList.length) 1000000000000 with
   | true => K (.str ⟨⟨a.data.toList ++ b.data.toList⟩⟩)
   | false => False
  | _ => False
 | _ => False
def aStrCut (x : AV) (lo hi : Option AV) (K : AV -> Prop) : Prop :=
 match x with
 | .str b =>
  (match hi with
   | none => fun k : Nat -> Prop => k b.data.toList.length
   | some (.int _ h) => fun k => 0 <= h∧h <= b.data.toList.length∧k h.toNat
   | _ => fun _ => False) fun h =>
  (match lo with
   | none => fun k : Nat -> Prop => k 0
   | some (.int _ l) => fun k => 0 <= l∧l <= h∧k l.toNat
   | _ => fun _ => False) fun l => K (.str ⟨⟨(b.data.toList.take h).drop l⟩⟩)
 | _ => False
def isU8 (z : AV) : Bool:=match z with | .int .u8 (.ofNat 0) => true | _ => false
def strRows (b : ByteArray) : List (List AV):=b.data.toList.map fun x => [.int .u8 x.toNat]
def aAppStr (t : TypeId) (x y : AV) (s : St) (K : AV -> St -> Prop) : Prop :=
 match (look T t).bind fun i => i.sl with
 | none => False
 | some et => match look T et with
  | none => False
  | some e => match and (isU8 e.zv) (and (Nat.beq e.sz 1) (Nat.beq e.by_ 1)) with
   | false => False
   | true => match y with
    | .str b => match x with
     | .nil => match Nat.ble 1 (strRows b).length with
      | true => match Nat.ble (strRows b).length 65536 with
       | true => K (.ms s.nx 0 (strRows b).length) (alloc (.arr (et,1) (strRows b) true) s)
       | false => False
      | false => False
     | .ms k 0 n => match s.hp k with
      | some (.arr sz rows true) => match and (and (Nat.beq sz.1 et) (Nat.beq sz.2 1)) (and (and (Nat.ble 1 n) (Nat.beq n rows.length)) (Nat.ble (n + (strRows b).length) 65536)) with
       | true => K (.ms s.nx 0 (n + (strRows b).length)) (alloc (.arr (et,1) (rows ++ strRows b) true) (setB k none s))
       | false => False
      | _ => False
     | _ => False
    | _ => False
def aLookup (t : TypeId) (m x : AV) (ok : Bool) (s : St) (K : AV -> Prop) : Prop :=
 match (look T t).bind fun i => i.mp with
 | some z => match plainV z with
  | true => match m with
   | .mv k => match s.hp k with
    | some (.mp es) => match pairOf x with
     | some p => match findP p es with
      | some v => match ok with | true => K (.tup [v,.bool true]) | false => K v
      | none => match ok with | true => K (.tup [z,.bool false]) | false => K z
     | none => False
    | _ => False
   | _ => False
  | false => False
 | none => False
def aMapSet (t : TypeId) (m x y : AV) (s : St) (K : St -> Prop) : Prop :=
 match (look T t).bind fun i => i.mp with
 | some _ => match m with
  | .mv k => match s.hp k with
   | some (.mp es) => match pairOf x with
    | some p => match plainV y with
     | true => K (setB k (some (.mp (setP p y es))) s)
     | false => False
    | none => False
   | _ => False
  | _ => False
 | none => False
def aMapLen (x : AV) (s : St) (K : AV -> Prop) : Prop :=
 match x with
 | .mv k => match s.hp k with
  | some (.mp es) => K (.int .i64 es.length)
  | _ => False
 | _ => False
def aLenS (t : TypeId) (x : AV) (s : St) (K : AV -> Prop) : Prop :=
 match (look T t).bind fun i => i.mp with
 | some _ => aMapLen x s K
 | none => match x with
  | .str b => K (.int .i64 b.data.toList.length)
  | _ => False
def aSp (o : Oper) (s : St) (K : St -> Prop) : Prop :=
 match o.op with
 | .makeMap t none => match (look T t).bind fun i => i.mp with
  | some _ => K (put o.dst (.mv s.nx) (alloc (.mp []) s))
  | none => False
 | .lookup t m x ok => aLookup T t (ev gl s m) (ev gl s x) ok s fun v => K (put o.dst v s)
 | .mapUpdate t m x y => force (ev gl s y) fun v => aMapSet T t (ev gl s m) (ev gl s x) v s fun s' => K (put o.dst .undef s')
 | .call { callee:=.builtin .len,args:=args,argTypes:=ts } => match evs gl s args.toList,ts.toList with
  | [x],[t] => aLenS T t x s fun v => K (put o.dst v s)
  | _,_ => False
 | .alloc e => aAllocT T e s fun v s' => K (put o.dst v s')
 | .convert t d x => match look T d with
  | some i => match i.st with
   | true => aStrM T t d (ev gl s x) s fun v => K (put o.dst v s)
   | false => aConvP T t d (ev gl s x) s fun v => K (put o.dst v s)
  | none => False
 | .binOp op t x y _ => match op with
  | .add => aStrAdd (ev gl s x) (ev gl s y) fun v => K (put o.dst v s)
  | .eql => aEq2 T t (ev gl s x) (ev gl s y) fun r => K (put o.dst (.bool r) s)
  | .neq => aEq2 T t (ev gl s x) (ev gl s y) fun r => K (put o.dst (.bool !r) s)
  | _ => False
 | .slice _ x lo hi none => aStrCut (ev gl s x) (lo.map (ev gl s)) (hi.map (ev gl s)) fun v => K (put o.dst v s)
 | .call { callee:=.builtin .append,args:=args,argTypes:=ts } => match evs gl s args.toList,ts.toList with
  | [x,y],[t,_] => aAppStr T t x y s fun v s' => K (put o.dst v s')
  | _,_ => False
 | _ => False
def aOpS (hs old : Bool) (lo : Nat) (p : Nat -> Bool) (HH HE : Tg -> List AV -> St -> (AV -> St -> Prop) -> Prop) (lim : Option (Nat -> Bool)) (o : Oper) (s : St) (K : St -> Prop) : Prop :=
 match and hs (spOp T o.op) with
 | true => aSp T gl o s K
 | false => aOpO T gl old lo p HH HE lim o s K
def aOps (fl : Oper -> Fl) (p : Nat -> Bool) (ops : Array Oper) : List Oper -> St -> (St -> Prop) -> Prop
 | [],s,K => K s
 | o :: rest,s,K =>
  match (fl o).ky with
  | some k => aRes T k o s fun s' => aOps fl p ops rest s' K
  | none =>
  match (fl o).fz with
  | true => (match guardOf ops o with | none => aFz T gl o s fun s' => aOps fl p ops rest s' K | some _ => False)
  | false =>
   match guardOf ops o with
   | none => young gl (fl o).chk p o.op s (aOpS T gl (fl o).hs (fl o).old (fl o).lo p (bif (fl o).hs then H else HD) H (bif (fl o).lim then some p else none) o s fun s' => aOps fl p ops rest s' K)
   | some (some d,want) => match s.tm d with
    | .bool b => (b = want -> young gl (fl o).chk p o.op s (aOpS T gl (fl o).hs (fl o).old (fl o).lo p (bif (fl o).hs then H else HD) H (bif (fl o).lim then some p else none) o (put (some d) (.bool want) s) fun s' => aOps fl p ops rest s' K)) ∧
          (b = !want -> aOps fl p ops rest (put o.dst (.tup []) (put (some d) (.bool !want) s)) K)
    | .tup [] => aOps fl p ops rest (put o.dst (.tup []) s) K
    | _ => False
   | some (none,_) => False
structure Le (s s' : St) : Prop where
 tm : ∀ t,s.tm t = .undef ∨ s.tm t = s'.tm t
 hp : ∀ k,s.hp k = none ∨ s.hp k = s'.hp k
 nx : s'.nx <= s.nx
structure LeC (n : Nat) (s s' : St) : Prop where
 tm : ∀ t,s.tm t = .undef ∨ (s.tm t = s'.tm t∧bl n (s.tm t) = true)
 hp : ∀ k,s.hp k = none ∨ ((s.hp k = s'.hp k∧Nat.blt k n = true)∧blB n (s.hp k) = true)
 nx : n <= s.nx
section
variable (ρ : Nat -> Nat) (ks : List Nat) (n : Nat) (hp : Nat -> Option Blk)
mutual
def cv : AV -> AV -> Prop
 | .bp k o,v => k < n∧v = .bp (ρ k) o
 | .ap k r o,v => k < n∧v = .ap (ρ k) r o
 | .ms k off l,v => k < n∧v = .ms (ρ k) off l
 | .mv k,v => k < n∧v = .mv (ρ k)
 | .fn f cs,v => ∃ vs,v = .fn f vs∧cvs cs vs
 | .agg cs,v => ∃ vs,v = .agg vs∧cvs cs vs
 | .tup cs,v => ∃ vs,v = .tup vs∧cvs cs vs
 | .sl rows,v => v = .sl rows ∨ (rows = []∧v = .nil) ∨ ∃ k off l sz rows' lv,v = .ms k off l∧k ∈ ks∧hp k = some (.arr sz rows' lv)∧off + l <= rows'.length∧rows = (rows'.drop off).take l
 | .undef,_ => True
 | d,v => v = d
def cvs : List AV -> List AV -> Prop
 | [],vs => vs = []
 | d :: ds,vs => ∃ v vs',vs = v :: vs'∧cv d v∧cvs ds vs'
end
def cvB (d : Option Blk) (b : Option Blk) : Prop :=
 match d with
 | none => True
 | some (.box cs) => ∃ vs,b = some (.box vs)∧cvs ρ ks n hp cs vs
 | some (.own et cs) => ∃ vs,b = some (.own et vs)∧cvs ρ ks n hp cs vs
 | some .res => False
 | d => b = d
end
structure LeR (n : Nat) (s s' : St) (ρ : Nat -> Nat) (ks : List Nat) : Prop where
 id : ∀ k,k < n -> ρ k = k
 tm : ∀ t,cv ρ ks s.nx s'.hp (s.tm t) (s'.tm t)
 hp : ∀ k,s.hp k = none ∨ (k < s.nx∧cvB ρ ks s.nx s'.hp (s.hp k) (frz ks s'.hp (ρ k)))
 inj : ∀ k k',s.hp k ≠ none -> s.hp k' ≠ none -> ρ k = ρ k' -> k = k'
 ones : ∀ k cs,(s.hp k = some (.box cs) ∨ ∃ et,s.hp k = some (.own et cs)) -> ones cs = true
 nx : n <= s.nx
def LeL (n : Nat) (s s' : St) : Prop:=Le s s' ∨ LeC n s s' ∨ ∃ ρ ks,LeR n s s' ρ ks
def opndOk (N : Nat) : Operand -> Bool
 | .tmp t => Nat.blt t N
 | _ => true
def opOk (P : Program) (N : Nat) (o : Oper) : Bool :=
 and (and (match o.dst with | some d => Nat.blt d N | none => true) (o.op.operands.toList.all (opndOk N))) (match o.op with | .convert src _ _ => (P.underlying src).isSome | _ => true)
def enters (P : Program) (f : FuncId) : Bool :=
 match P.funcs[f]? with
 | some fn => and (not (fn.name == "runtime.NumGoroutine")) fn.body.isSome
 | none => false
def quietA : List Oper -> Option (Nat × Nat)
 | [⟨some a,.call ⟨.builtin .recover,⟨[]⟩,⟨[]⟩⟩,_,_,_,none⟩,⟨some b,.assign (.tmp a'),_,_,_,none⟩] => match Nat.beq a a' with | true => some (a,b) | false => none
 | _ => none
def quietB : List Oper -> Option (Nat × Nat × Nat × Nat)
 | [⟨some c,.move (.tmp b),_,_,_,none⟩,⟨some d,.binOp .neq ty (.tmp c') (.const .nilIface) _,_,_,_,none⟩] => match Nat.beq c c' with | true => some (b,c,d,ty) | false => none
 | _ => none
def quietCd (P : Program) (N : Nat) : Code -> Bool
 | .seq (.region _ ops0 false) (.seq (.region _ ops1 false) (.cond (.tmp d') _ .skip)) => match quietA ops0.toList,quietB ops1.toList with
  | some (a,b),some (b',c,d,ty) => and (and (Nat.beq b b') (Nat.beq d d')) (and (and (and (Nat.blt a N) (Nat.blt b N)) (and (Nat.blt c N) (Nat.blt d N))) (match P.underlying ty with | some (.interface _) => true | _ => false))
  | _,_ => false
 | _ => false
def quietFn (P : Program) (f : FuncId) (n : Nat) : Bool :=
 match P.funcs[f]? with
 | some fn => match fn.body with
  | some cd => and (and (enters P f) (Nat.ble n fn.ntmps)) (and (match fn.results.toList with | [] => true | _ => false) (quietCd P fn.ntmps cd))
  | none => false
 | none => false
def noRange : Code -> Bool
 | .region _ ops false => match deferR ops.toList with | some _ => false | none => true
 | .seq a b => and (noRange a) (noRange b)
 | .cond _ a b => and (noRange a) (noRange b)
 | .block _ c => noRange c
 | .loop c => noRange c
 | .rangeFunc _ _ _ _ => false
 | _ => true
def codeOk (P : Program) (N : Nat) : Code -> Bool
 | .region _ ops false => match deferR ops.toList with
  | some (d,f,cap) => and (Nat.blt d N) (and (cap.all (opndOk N)) (quietFn P f cap.length))
  | none => ops.toList.all (opOk P N)
 | .region _ ops true => ops.toList.all (opOk P N)
 | .seq a b => and (codeOk P N a) (codeOk P N b)
 | .cond c a b => and (opndOk N c) (and (codeOk P N a) (codeOk P N b))
 | .block _ c => codeOk P N c
 | .loop c => codeOk P N c
 | .rangeFunc g ps a b => and (and (opndOk N g) (ps.toList.all fun p => Nat.blt p N)) (and (and (codeOk P N a) (noRange a)) (and (codeOk P N b) (noRange b)))
 | _ => true
def pureF (f : Fl) (op : Op) : Bool:=or f.fz (pureOp op)
def turnsF (f : Fl) (op : Op) : Bool:=and (not f.fz) (turnsOp op)
def readF (f : Fl) (op : Op) : Bool:=and (not f.fz) (readOp op)
def indep0 (fl : Oper -> Fl) (x y : Oper) : Bool :=
  (or (or (and (or (pureF (fl x) x.op) (readF (fl x) x.op)) (or (pureF (fl y) y.op) (readF (fl y) y.op))) (or (and (pureF (fl x) x.op) (turnsF (fl y) y.op)) (and (turnsF (fl x) x.op) (pureF (fl y) y.op))))
   (or (and (and (readF (fl x) x.op) (fl x).lim) (and (turnsF (fl y) y.op) (fl y).chk)) (and (and (turnsF (fl x) x.op) (fl x).chk) (and (readF (fl y) y.op) (fl y).lim))))
def calm (f : Fl) (op : Op) : Bool:=or (pureF f op) (or (and (readF f op) f.lim) f.old)
def indep (fl : Oper -> Fl) (ops : Array Oper) (x y : Oper) : Bool :=
 and (and (x.apart ops y) (and (not (fl x).hs) (not (fl y).hs)))
  (match (fl x).ky,(fl y).ky with
  | none,none => indep0 fl x y
  | some a,some b => not (Nat.beq a b)
  | some _,none => calm (fl y) y.op
  | none,some _ => calm (fl x) x.op)
def aheadOf (ops : List Oper) : List Nat :=
 ops.foldl (fun acc o => acc ++ [o.after.toList.foldl (fun m e => match Region.binds .any e with | true => Nat.lor (Nat.lor m (Nat.pow 2 e.on)) ((nth acc e.on).getD 0) | false => m) 0]) []
def numbered : List Oper -> List Nat -> Nat -> List (Nat × Nat × Oper)
 | o :: rest,m :: ms,i => (i,m,o) :: numbered rest ms (Nat.succ i)
 | _,_,_ => []
def aheadOk (masks : List Nat) (i m : Nat) (o : Oper) : Bool :=
 and (o.after.toList.all fun e => match Region.binds .any e with | true => Nat.blt e.on i | false => true)
  ((List.range i).all fun k => match Nat.testBit m k with
    | true => o.after.toList.any fun e => match Region.binds .any e with | true => or (Nat.beq e.on k) (and (Nat.blt k e.on) (Nat.testBit ((nth masks e.on).getD 0) k)) | false => false
    | false => true)
def pairsOk (fl : Oper -> Fl) (all : Array Oper) (masks : List Nat) : List (Nat × Nat × Oper) -> Bool
 | [] => true
 | (i,m,o) :: rest => and (and (aheadOk masks i m o) (rest.all fun p => or (Nat.testBit p.2.1 i) (indep fl all o p.2.2))) (pairsOk fl all masks rest)
def sameDst (x y : Oper) : Bool:=match x.dst,y.dst with
 | some d,some d' => Nat.beq d d'
 | none,none => (match x.op with
  | .store _ (.tmp a) (.tmp b) => (match y.op with | .store _ (.tmp a') (.tmp b') => and (Nat.beq a a') (Nat.beq b b') | _ => true)
  | _ => true)
 | _,_ => false
def partners (l : List (Nat × Nat × Oper)) (o : Oper) : List Oper :=
 l.flatMap fun p => match sameDst p.2.2 o with
  | true => l.filterMap fun q => match or (Nat.beq p.1 q.1) (or (Nat.testBit p.2.1 q.1) (Nat.testBit q.2.1 p.1)) with | true => none | false => some q.2.2
  | false => []
def isAlloc (o : Oper) : Bool:=match o.guard with | none => (match o.op with | .alloc _ => true | .buildSlice _ n ps => (match n with | 0 => (match ps.toList with | [] => true | _ => false) | _ => false) | _ => false) | some _ => false
def isCall (op : Op) : Bool:=match op with | .call { callee:=.value _,.. } => true | _ => false
def keeps (l : List (Nat × Nat × Oper)) : List Oper:=l.filterMap fun q => match and (isAlloc q.2.2) ((partners l q.2.2).any fun r => turnsOp r.op) with | true => some q.2.2 | false => none
def rankOf : List Oper -> Nat -> Oper -> Option Nat
 | [],_,_ => none
 | x :: l,i,o => match sameDst x o with | true => some i | false => rankOf l (Nat.succ i) o
def fzOp (ops : List Oper) (o : Oper) : Bool :=
 match o.op with
 | .buildSlice .. => match o.dst with
  | some d => match o.guard with
   | none => ops.any fun q => match q.op with | .convert _ _ (.tmp e) => Nat.beq d e | _ => false
   | some _ => false
  | none => false
 | _ => false
def fzCall (ops ps : List Oper) (o : Oper) : Bool :=
 match o.op with
 | .buildSlice _ (_ + 1) _ => match o.dst with
  | some d => match o.guard with
   | none => and (ps.any fun q => turnsOp q.op) (ops.any fun q => match q.op with | .call { callee:=.value _,args:=args,argTypes:=_ } => args.toList.any (fun x => match x with | .tmp e => Nat.beq d e | _ => false) | _ => false)
   | some _ => false
  | none => false
 | _ => false
def flags (ops : Array Oper) (o : Oper) : Fl :=
 let l:=numbered ops.toList (aheadOf ops.toList) 0
 let ps:=partners l o
 { hs:=match ps with | [] => true | _ => false
   lim:=and (readOp o.op) (ps.any fun q => turnsOp q.op)
   chk:=and (turnsOp o.op) (ps.any fun q => readOp q.op)
   ky:=match isAlloc o with | true => rankOf (keeps l) 0 o | false => none
   old:=match isCall o.op with | true => or (ps.any fun q => (rankOf (keeps l) 0 q).isSome) (and (ps.any fun q => readOp q.op) (ps.all fun q => not (turnsOp q.op))) | false => false
   fz:=or (fzOp ops.toList o) (fzCall ops.toList ps o) }
def flagsAt (n : Nat) (ops : Array Oper) (o : Oper) : Fl :=
 match flags ops o with
 | ⟨hs,lim,chk,ky,old,fz,_⟩ => match ky with
  | none => ⟨hs,lim,chk,none,old,fz,n⟩
  | some k => ⟨hs,lim,chk,some (Nat.add n k),old,fz,n⟩
def kept : Nat -> St -> St
 | 0,s => s
 | n + 1,s => kept n ⟨s.tm,upd s.nx (some .res) s.hp,Nat.succ s.nx⟩
def keptN (ops : Array Oper) : Nat:=(keeps (numbered ops.toList (aheadOf ops.toList) 0)).length
def drawOk (ops : Array Oper) : Bool:=pairsOk (flags ops) ops (aheadOf ops.toList) (numbered ops.toList (aheadOf ops.toList) 0)
def flagsNo : Oper -> Fl:=fun _ => { hs:=true,lim:=false,chk:=false }
def ptrKeys : List AV -> List Nat
 | [] => []
 | .bp k _ :: vs => k :: ptrKeys vs
 | _ :: vs => ptrKeys vs
def sees (ops : Array Oper) (s : St) : Nat -> Bool:=fun k =>
 and (Nat.blt k s.nx) (ops.toList.all fun o => match o.op with
  | .store _ a _ => match (flags ops o).chk with
   | true => not (memN k (keyOf (ev gl s a)))
   | false => true
  | .move x => match ev gl s x with
   | .fn _ cap => not (memN k (ptrKeys cap))
   | _ => true
  | _ => true)
def putL : List Tmp -> List AV -> (Nat -> AV) -> Nat -> AV
 | p :: ps,v :: vs,tm => putL ps vs fun k => bif Nat.beq k p then v else tm k
 | _,_,tm => tm
section
variable (G : FuncId -> List AV -> St -> (List AV -> St -> (St -> Prop) -> Prop) -> (St -> Prop) -> Prop)
def awC : Code -> St -> (Exit -> St -> Prop) -> Prop
 | .skip,s,Q => Q .normal s
 | .region _ ops false,s,Q => match deferR ops.toList with
  | some (d,f,cap) => forceL (evs gl s cap) fun cs => Q .normal (put (some d) (.fn f cs) s)
  | none => aOps T gl HD H flagsNo (fun _ => true) ops ops.toList s (Q .normal)
 | .region _ ops true,s,Q => drawOk ops = true∧aOps T gl HD H (flagsAt s.nx ops) (sees gl ops s) ops ops.toList (kept (keptN ops) s) (Q .normal)
 | .seq a b,s,Q => awC a s fun e s' => match e with | .normal => awC b s' Q | e => Q e s'
 | .cond c a b,s,Q => match ev gl s c with | .bool t => (t = true -> awC a s Q)∧(t = false -> awC b s Q) | _ => False
 | .block id c,s,Q => awC c s fun e s' => match e with | .exit i => (match Nat.beq i id with | true => Q .normal s' | false => Q (.exit i) s') | e => Q e s'
 | .loop c,s,Q => ∃ (I : St -> Prop) (μ : St -> Nat),(∃ s0,LeL s.nx s0 s∧I s0)∧∀ s',I s' -> awC c s' fun e s'' => match e with | .normal => ∃ s0,LeL s.nx s0 s''∧I s0∧μ s0 < μ s' | e => Q e s''
 | .rangeFunc g ps assign body,s,Q => match ev gl s g with
  | .fn f cap => G f cap s
    (fun args st K => match Nat.beq (lenL args) (ps.toList.length) with
     | true => awC assign ⟨putL ps.toList args s.tm,st.hp,st.nx⟩ fun e s1 => match e with
      | .normal => awC body s1 fun e s2 => match e with
       | .normal => K ⟨st.tm,s2.hp,s2.nx⟩
       | _ => False
      | _ => False
     | false => False)
    (fun s' => Q .normal ⟨s.tm,s'.hp,s'.nx⟩)
  | _ => False
 | .exit id,s,Q => Q (.exit id) s
 | .ret,s,Q => Q .ret s
 | _,_,_ => False
end
end
end Ab
end
section
namespace Ab
open Go
structure MB where
 b : Nat
 sz : Nat
 cap : Nat
 e : TypeId
abbrev Foot:=Nat -> Prop
section
variable (w : World) (F : Foot)
mutual
def RepD : AV -> Value -> Prop
 | .int k n,v => v = .int k n
 | .bool b,v => v = .bool b
 | .str s,v => v = .string s
 | .sl rows,v => ∃ a cap,v = .slice a rows.length cap∧rows.length <= cap∧cap <= maxLen∧(rows = [] ∨ ∃ b off sz,a = some ⟨b,off,none⟩∧F b∧RepR b sz rows off)
 | .nil,v => v = .slice none 0 0
 | .agg cs,v => ∃ vs : List Value,v = .agg ⟨vs⟩∧RepDL cs vs
 | .tup cs,v => ∃ vs : List Value,v = .tuple ⟨vs⟩∧RepDL cs vs
 | _,_ => False
def RepDL : List AV -> List Value -> Prop
 | [],vs => vs = []
 | c :: cs,vs => ∃ v vs',vs = v :: vs'∧RepD c v∧RepDL cs vs'
def RepC (b : Nat) : List AV -> Nat -> Prop
 | [],_ => True
 | c :: cs,o => (one c = true∧∃ v,w.cell? ⟨b,o,none⟩ = some v∧RepD c v)∧RepC b cs (o + 1)
def RepR (b sz : Nat) : List (List AV) -> Nat -> Prop
 | [],_ => True
 | r :: rs,o => r.length = sz∧RepC b r o∧RepR b sz rs (o + sz)
end
end
section
variable (w : World) (F : Foot) (M : Nat -> Option MB)
mutual
def RepM : AV -> Value -> Prop
 | .int k n,v => v = .int k n
 | .bool b,v => v = .bool b
 | .str s,v => v = .string s
 | .sl rows,v => RepD w F (.sl rows) v
 | .nil,v => v = .slice none 0 0
 | .agg cs,v => ∃ vs : List Value,v = .agg ⟨vs⟩∧RepML cs vs
 | .tup cs,v => ∃ vs : List Value,v = .tuple ⟨vs⟩∧RepML cs vs
 | .bp k o,v => ∃ m,M k = some m∧v = .pointer (some ⟨m.b,o,none⟩)
 | .ap k r o,v => ∃ m,M k = some m∧v = .pointer (some ⟨m.b,r * m.sz + o,none⟩)
 | .er row o,v => ∃ b off,v = .pointer (some ⟨b,off + o,none⟩)∧F b∧RepC w F b row off
 | .ms k off n,v => ∃ m,M k = some m∧((v = .slice (some ⟨m.b,off * m.sz,none⟩) n (m.cap - off)∧off + n <= m.cap) ∨ (n = 0∧0 < off∧∃ a c,v = .slice a 0 c∧c <= maxLen))
 | .fn f cap,v => ∃ vs : List Value,v = .func (.func f) #[] ⟨vs⟩∧RepML cap vs
 | .yl l,v => v = .func (.yield l) #[] #[]
 | .lit x,v => v = x
 | .mv k,v => ∃ m,M k = some m∧v = .map (some m.b)
 | .undef,_ => True
def RepML : List AV -> List Value -> Prop
 | [],vs => vs = []
 | c :: cs,vs => ∃ v vs',vs = v :: vs'∧RepM c v∧RepML cs vs'
end
def RepMC (b : Nat) : List AV -> Nat -> Prop
 | [],_ => True
 | c :: cs,o => (one c = true∧∃ v,w.cell? ⟨b,o,none⟩ = some v∧RepM w F M c v)∧RepMC b cs (o + 1)
end
structure Tr (F : Foot) (M : Nat -> Option MB) (w : World) (F' : Foot) (M' : Nat -> Option MB) (w' : World) : Prop where
 foot : ∀ b,F b -> F' b
 cell : ∀ b,F b -> w'.heap[b]? = w.heap[b]?
 map : ∀ k m,M k = some m -> M' k = some m
 size : w.heap.size <= w'.heap.size
 fnew : ∀ b,F' b -> F b ∨ (∃ k m,M k = some m∧m.b = b) ∨ w.heap.size <= b
 mnew : ∀ k m,M' k = some m -> (∃ k0 m0,M k0 = some m0∧m0.b = m.b) ∨ w.heap.size <= m.b
 rest : ∀ b,b < w.heap.size -> (∀ k m,M k = some m -> m.b ≠ b) -> w'.heap[b]? = w.heap[b]?
theorem Tr.refl (F : Foot) (M : Nat -> Option MB) (w : World) : Tr F M w F M w:=⟨fun _ h => h,fun _ _ => rfl,fun _ _ h => h,Nat.le_refl _,fun _ h => .inl h,fun k m h => .inl ⟨k,m,h,rfl⟩,fun _ _ _ => rfl⟩
theorem Tr.trans {F M w F' M' w' F'' M'' w''} (h : Tr F M w F' M' w') (g : Tr F' M' w' F'' M'' w'') : Tr F M w F'' M'' w'' :=
 ⟨fun b hb => g.foot b (h.foot b hb),fun b hb => (g.cell b (h.foot b hb)).trans (h.cell b hb),fun k m hk => g.map k m (h.map k m hk),Nat.le_trans h.size g.size,
  fun b hb => by
   have hs:=h.size
   rcases g.fnew b hb with h1 | ⟨k,m,h1,h2⟩ | h1
   ·exact h.fnew b h1
   ·rcases h.mnew k m h1 with ⟨k0,m0,h3,h4⟩ | h3
    ·exact .inr (.inl ⟨k0,m0,h3,h4.trans h2⟩)
    ·exact .inr (.inr (h2 ▸ h3))
   ·exact .inr (.inr (by omega)),
  fun k m hk => by
   have hs:=h.size
   rcases g.mnew k m hk with ⟨k0,m0,h1,h2⟩ | h1
   ·rcases h.mnew k0 m0 h1 with ⟨k1,m1,h3,h4⟩ | h3
    ·exact .inl ⟨k1,m1,h3,h4.trans h2⟩
    ·exact .inr (h2 ▸ h3)
   ·exact .inr (by omega),
  fun b hb hn => (g.rest b (Nat.lt_of_lt_of_le hb h.size) fun k m hk e => by
   rcases h.mnew k m hk with ⟨k0,m0,h1,h2⟩ | h1
   ·exact hn k0 m0 h1 (h2.trans e)
   ·omega).trans (h.rest b hb hn)⟩
theorem Tr.alien {F M w F' M' w'} (h : Tr F M w F' M' w') {b : Nat} (hb : b < w.heap.size) (hF : ¬ F b) (hM : ∀ k m,M k = some m -> m.b ≠ b) : ¬ F' b∧(∀ k m,M' k = some m -> m.b ≠ b)∧w'.heap[b]? = w.heap[b]? :=
 ⟨fun hf => by
  rcases h.fnew b hf with h1 | ⟨k,m,h1,h2⟩ | h1
  ·exact hF h1
  ·exact hM k m h1 h2
  ·omega,
  fun k m hk e => by
   rcases h.mnew k m hk with ⟨k0,m0,h1,h2⟩ | h1
   ·exact hM k0 m0 h1 (h2.trans e)
   ·omega,
  h.rest b hb hM⟩
section mono
mutual
theorem RepD.mono {w w' : World} {F F' : Foot} (hF : ∀ b,F b -> F' b) (hc : ∀ b,F b -> w'.heap[b]? = w.heap[b]?) : ∀ (a : AV) (v : Value),RepD w F a v -> RepD w' F' a v
 | .int _ _,_,h => h
 | .bool _,_,h => h
 | .str _,_,h => h
 | .nil,_,h => h
 | .undef,_,h => h
 | .bp _ _,_,h => h
 | .ap _ _ _,_,h => h
 | .er _ _,_,h => h
 | .ms _ _ _,_,h => h
 | .fn _ _,_,h => h
 | .yl _,_,h => h
 | .lit _,_,h => h
 | .mv _,_,h => h
 | .sl rows,v,h => by
   unfold RepD at h ⊢
   obtain ⟨a,cap,h1,h2,h3,h4⟩:=h
   refine ⟨a,cap,h1,h2,h3,?_⟩
   rcases h4 with h4 | ⟨b,off,sz,h4,h5,h6⟩
   ·exact .inl h4
   ·exact .inr ⟨b,off,sz,h4,hF b h5,RepR.mono hF hc b h5 sz rows off h6⟩
 | .agg cs,v,h => by
   unfold RepD at h ⊢
   obtain ⟨vs,h1,h2⟩:=h
   exact ⟨vs,h1,RepDL.mono hF hc cs vs h2⟩
 | .tup cs,v,h => by
   unfold RepD at h ⊢
   obtain ⟨vs,h1,h2⟩:=h
   exact ⟨vs,h1,RepDL.mono hF hc cs vs h2⟩
theorem RepDL.mono {w w' : World} {F F' : Foot} (hF : ∀ b,F b -> F' b) (hc : ∀ b,F b -> w'.heap[b]? = w.heap[b]?) : ∀ (l : List AV) (vs : List Value),RepDL w F l vs -> RepDL w' F' l vs
 | [],_,h => by unfold RepDL at h ⊢; exact h
 | c :: cs,vs,h => by
   unfold RepDL at h ⊢
   obtain ⟨v,vs',h1,h2,h3⟩:=h
   exact ⟨v,vs',h1,RepD.mono hF hc c v h2,RepDL.mono hF hc cs vs' h3⟩
theorem RepC.mono {w w' : World} {F F' : Foot} (hF : ∀ b,F b -> F' b) (hc : ∀ b,F b -> w'.heap[b]? = w.heap[b]?) (b : Nat) (hb : F b) : ∀ (l : List AV) (o : Nat),RepC w F b l o -> RepC w' F' b l o
 | [],_,h => by unfold RepC at h ⊢; exact h
 | c :: cs,o,h => by
   unfold RepC at h ⊢
   obtain ⟨⟨h0,v,h1,h2⟩,h3⟩:=h
   exact ⟨⟨h0,v,(World.cell?_of_block (hc b hb)).trans h1,RepD.mono hF hc c v h2⟩,RepC.mono hF hc b hb cs (o + 1) h3⟩
theorem RepR.mono {w w' : World} {F F' : Foot} (hF : ∀ b,F b -> F' b) (hc : ∀ b,F b -> w'.heap[b]? = w.heap[b]?) (b : Nat) (hb : F b) (sz : Nat) : ∀ (l : List (List AV)) (o : Nat),RepR w F b sz l o -> RepR w' F' b sz l o
 | [],_,h => by unfold RepR at h ⊢; exact h
 | r :: rs,o,h => by
   unfold RepR at h ⊢
   exact ⟨h.1,RepC.mono hF hc b hb r o h.2.1,RepR.mono hF hc b hb sz rs (o + sz) h.2.2⟩
end
mutual
theorem RepM.mono {w w' : World} {F F' : Foot} (hF : ∀ b,F b -> F' b) (hc : ∀ b,F b -> w'.heap[b]? = w.heap[b]?) {M M' : Nat -> Option MB} (hM : ∀ k m,M k = some m -> M' k = some m) : ∀ (a : AV) (v : Value),RepM w F M a v -> RepM w' F' M' a v
 | .int _ _,_,h => h
 | .bool _,_,h => h
 | .str _,_,h => h
 | .nil,_,h => h
 | .undef,_,h => h
 | .sl rows,v,h => RepD.mono hF hc (.sl rows) v h
 | .bp k o,v,h => by
   unfold RepM at h ⊢
   obtain ⟨m,h1,h2⟩:=h
   exact ⟨m,hM k m h1,h2⟩
 | .ap k r o,v,h => by
   unfold RepM at h ⊢
   obtain ⟨m,h1,h2⟩:=h
   exact ⟨m,hM k m h1,h2⟩
 | .ms k off n,v,h => by
   unfold RepM at h ⊢
   obtain ⟨m,h1,h2⟩:=h
   exact ⟨m,hM k m h1,h2⟩
 | .er row o,v,h => by
   unfold RepM at h ⊢
   obtain ⟨b,off,h1,h2,h3⟩:=h
   exact ⟨b,off,h1,hF b h2,RepC.mono hF hc b h2 row off h3⟩
 | .agg cs,v,h => by
   unfold RepM at h ⊢
   obtain ⟨vs,h1,h2⟩:=h
   exact ⟨vs,h1,RepML.mono hF hc hM cs vs h2⟩
 | .tup cs,v,h => by
   unfold RepM at h ⊢
   obtain ⟨vs,h1,h2⟩:=h
   exact ⟨vs,h1,RepML.mono hF hc hM cs vs h2⟩
 | .fn f cs,v,h => by
   unfold RepM at h ⊢
   obtain ⟨vs,h1,h2⟩:=h
   exact ⟨vs,h1,RepML.mono hF hc hM cs vs h2⟩
 | .yl l,v,h => by unfold RepM at h ⊢; exact h
 | .lit _,v,h => by unfold RepM at h ⊢; exact h
 | .mv k,v,h => by
   unfold RepM at h ⊢
   obtain ⟨m,h1,h2⟩:=h
   exact ⟨m,hM k m h1,h2⟩
theorem RepML.mono {w w' : World} {F F' : Foot} (hF : ∀ b,F b -> F' b) (hc : ∀ b,F b -> w'.heap[b]? = w.heap[b]?) {M M' : Nat -> Option MB} (hM : ∀ k m,M k = some m -> M' k = some m) : ∀ (l : List AV) (vs : List Value),RepML w F M l vs -> RepML w' F' M' l vs
 | [],_,h => by unfold RepML at h ⊢; exact h
 | c :: cs,vs,h => by
   unfold RepML at h ⊢
   obtain ⟨v,vs',h1,h2,h3⟩:=h
   exact ⟨v,vs',h1,RepM.mono hF hc hM c v h2,RepML.mono hF hc hM cs vs' h3⟩
end
end mono
section
variable {w : World} {F : Foot} {M : Nat -> Option MB}
mutual
theorem RepM.of_D : ∀ (a : AV) (v : Value),RepD w F a v -> RepM w F M a v
 | .int _ _,_,h => h
 | .bool _,_,h => h
 | .str _,_,h => h
 | .nil,_,h => h
 | .undef,_,_ => trivial
 | .sl rows,v,h => h
 | .bp _ _,_,h => False.elim (by unfold RepD at h; exact h)
 | .ap _ _ _,_,h => False.elim (by unfold RepD at h; exact h)
 | .ms _ _ _,_,h => False.elim (by unfold RepD at h; exact h)
 | .er _ _,_,h => False.elim (by unfold RepD at h; exact h)
 | .fn _ _,_,h => False.elim (by unfold RepD at h; exact h)
 | .yl _,_,h => False.elim (by unfold RepD at h; exact h)
 | .lit _,_,h => False.elim (by unfold RepD at h; exact h)
 | .mv _,_,h => False.elim (by unfold RepD at h; exact h)
 | .agg cs,v,h => by
   unfold RepD at h; unfold RepM
   obtain ⟨vs,h1,h2⟩:=h
   exact ⟨vs,h1,RepML.of_D cs vs h2⟩
 | .tup cs,v,h => by
   unfold RepD at h; unfold RepM
   obtain ⟨vs,h1,h2⟩:=h
   exact ⟨vs,h1,RepML.of_D cs vs h2⟩
theorem RepML.of_D : ∀ (l : List AV) (vs : List Value),RepDL w F l vs -> RepML w F M l vs
 | [],_,h => by unfold RepDL at h; unfold RepML; exact h
 | c :: cs,vs,h => by
   unfold RepDL at h; unfold RepML
   obtain ⟨v,vs',h1,h2,h3⟩:=h
   exact ⟨v,vs',h1,RepM.of_D c v h2,RepML.of_D cs vs' h3⟩
end
theorem RepML.len : ∀ (l : List AV) (vs : List Value),RepML w F M l vs -> vs.length = l.length
 | [],_,h => by unfold RepML at h; rw [h]; rfl
 | c :: cs,vs,h => by
   unfold RepML at h
   obtain ⟨v,vs',h1,h2,h3⟩:=h
   rw [h1,List.length_cons,RepML.len cs vs' h3,List.length_cons]
theorem RepR.at {b sz : Nat} : ∀ (l : List (List AV)) (o r : Nat) (row : List AV),RepR w F b sz l o -> l[r]? = some row -> row.length = sz∧RepC w F b row (o + r * sz)
 | [],_,_,_,_,h => by simp at h
 | c :: cs,o,0,row,h,e => by
   unfold RepR at h
   simp at e; subst e
   simpa using ⟨h.1,h.2.1⟩
 | c :: cs,o,r + 1,row,h,e => by
   unfold RepR at h
   have:=RepR.at cs (o + sz) r row h.2.2 (by simpa using e)
   rw [show o + (r + 1) * sz = o + sz + r * sz by rw [Nat.add_mul]; omega]
   exact this
theorem RepR.rowlen {b sz : Nat} {l : List (List AV)} {o : Nat} (h : RepR w F b sz l o) : ∀ row ∈ l,row.length = sz:=by
 intro row hr
 obtain ⟨r,hr⟩:=List.getElem?_of_mem hr
 exact (RepR.at l o r row h hr).1
theorem RepMC.of_C {b : Nat} : ∀ (l : List AV) (o : Nat),RepC w F b l o -> RepMC w F M b l o
 | [],_,_ => trivial
 | c :: cs,o,h => by
   unfold RepC at h; unfold RepMC
   obtain ⟨⟨h0,v,h1,h2⟩,h3⟩:=h
   exact ⟨⟨h0,v,h1,RepM.of_D c v h2⟩,RepMC.of_C cs (o + 1) h3⟩
theorem RepMC.at {b : Nat} : ∀ (l : List AV) (o j : Nat) (c : AV),RepMC w F M b l o -> l[j]? = some c -> one c = true∧∃ v,w.cell? ⟨b,o + j,none⟩ = some v∧RepM w F M c v
 | [],_,_,_,_,h => by simp at h
 | c :: cs,o,0,d,h,e => by
   unfold RepMC at h
   simp at e; subst e
   exact h.1
 | c :: cs,o,j + 1,d,h,e => by
   unfold RepMC at h
   rw [show o + (j + 1) = o + 1 + j by omega]
   exact RepMC.at cs (o + 1) j d h.2 (by simpa using e)
end
end Ab
end
section
namespace Ab
open Go Go.RowKit
def Own (w : World) (m : MB) : Prop:=∃ cur : Array Value,w.heap[m.b]? = some (.cells cur m.e (0,0))∧cur.size = m.cap * m.sz
theorem Own.lt {w : World} {m : MB} (h : Own w m) : m.b < w.heap.size:=by
 obtain ⟨c,h,_⟩:=h; exact (Array.getElem?_eq_some_iff.1 h).1
theorem Own.keep {w w' : World} {m : MB} (h : Own w m) (he : w'.heap[m.b]? = w.heap[m.b]?) : Own w' m:=by
 obtain ⟨c,h1,h2⟩:=h; exact ⟨c,he.trans h1,h2⟩
structure Ctx where
 P : Program
 T : List (Nat × TyI)
 gl : List (Nat × AV)
 /-- the world and the data at the call's start -/
 w0 : World
 F0 : Foot
 /-- blocks that are neither data nor the call's own,and what they hold -/
 al : List (Nat × Obj):=[]
 /-- a world that came before -/
 base : Option (Foot × (Nat -> Option MB) × World):=none
 /-- the deferred calls,if they are known -/
 dx : Option (List Deferred):=none
def TOk (P : Program) (T : List (Nat × TyI)) : Prop:=∀ t i,look T t = some i -> tyOf P t = some i
theorem TOk.parts {P : Program} {T : List (Nat × TyI)} (h : TOk P T) {t : TypeId} {i : TyI} (ht : look T t = some i) :
  ∃ ti d z,P.info? t = some ti∧P.underlying t = some d∧ti.zero = some z∧i.sz = ti.size∧i.by_ = ti.bytes∧i.zv = ofV z ∧
   (∀ e,i.sl = some e -> d = .slice e)∧(i.ag = true -> (∃ fs,d = .struct fs) ∨ (∃ n e,d = .array n e))∧(i.ag = false -> (∀ fs,d ≠ .struct fs)∧(∀ n e,d ≠ .array n e)) ∧
   (∀ fs,d = .struct fs -> i.lay = fs.toList.map fun f => (f.offset,P.cellsOf f.type))∧(i.lay ≠ [] -> ∃ fs,d = .struct fs) ∧
   (∀ n s,i.arr = some (n,s) -> ∃ e,d = .array n e∧s = P.cellsOf e)∧(∀ k,i.k = some k -> d = .int k)∧(i.bo = true -> d = .bool) ∧
   (∀ fs,d = .struct fs -> i.fo = true -> ∀ f ∈ fs.toList,(P.info? f.type).isSome = true)∧z.cells.size = ti.size:=by
 have h:=h t i ht
 unfold tyOf at h
 split at h
 ·rename_i ti d e1 e2
  split at h
  ·rename_i z e3
   cases hq : Nat.beq z.cells.size ti.size with
   | false => rw [hq] at h; cases h
   | true =>
    rw [hq] at h
    have hq:=Nat.eq_of_beq_eq_true hq
    simp only [cond_true,Option.some.injEq] at h
    subst h
    refine ⟨ti,d,z,e1,e2,e3,rfl,rfl,rfl,?_,?_,?_,?_,?_,?_,?_,?_,?_,hq⟩ <;> cases d <;> simp
    intro hh f hf
    obtain ⟨j,hj,rfl⟩:=Array.mem_iff_getElem.1 hf
    exact hh j hj
  ·cases h
 ·cases h
def Alien (c : Ctx) (F : Foot) (M : Nat -> Option MB) (D : Nat) : Prop:=c.w0.heap.size <= D∧¬ F D∧∀ k m,M k = some m -> m.b ≠ D
theorem Alien.tr {c : Ctx} {F F' : Foot} {M M' : Nat -> Option MB} {w w' : World} (t : Tr F M w F' M' w') {D : Nat} (h : Alien c F M D) (hD : D < w.heap.size) : Alien c F' M' D∧w'.heap[D]? = w.heap[D]?:=by
 obtain ⟨h1,h2,h3⟩:=t.alien hD h.2.1 h.2.2
 exact ⟨⟨h.1,h1,h2⟩,h3⟩
def AlOk (c : Ctx) (F : Foot) (M : Nat -> Option MB) (al : List (Nat × Obj)) (w : World) : Prop:=∀ p ∈ al,Alien c F M p.1∧w.heap[p.1]? = some p.2
theorem AlOk.tr {c : Ctx} {F F' : Foot} {M M' : Nat -> Option MB} {w w' : World} (t : Tr F M w F' M' w') {al : List (Nat × Obj)} (h : AlOk c F M al w) : AlOk c F' M' al w':=fun p hp => by
 obtain ⟨h4,h5⟩:=h p hp
 obtain ⟨h6,h7⟩:=h4.tr t (Array.getElem?_eq_some_iff.1 h5).1
 exact ⟨h6,h7.trans h5⟩
def BaseOk (c : Ctx) (F : Foot) (M : Nat -> Option MB) (w : World) : Prop:=∀ b,c.base = some b -> Tr b.1 b.2.1 b.2.2 F M w∧∀ k,b.1 k -> k < b.2.2.heap.size
theorem BaseOk.tr {c : Ctx} {F F' : Foot} {M M' : Nat -> Option MB} {w w' : World} (t : Tr F M w F' M' w') (h : BaseOk c F M w) : BaseOk c F' M' w':=fun b hb => ⟨(h b hb).1.trans t,(h b hb).2⟩
def plainOf : AV -> Value
 | .int k n => .int k n
 | .bool b => .bool b
 | _ => undef
def RepE : List ((Int × Int) × AV) -> List MapEntry -> Prop
 | [],es => es = []
 | (k,v) :: l,es => ∃ e es',es = e :: es'∧e.key = .agg #[.int .i64 k.1,.int .i64 k.2]∧(plainV v = true∧e.val = plainOf v)∧RepE l es'
def MapIs (w : World) (b : Nat) (es : List ((Int × Int) × AV)) : Prop:=∃ (ents : Array MapEntry) (clock : Nat),w.heap[b]? = some (.map ents clock)∧RepE es ents.toList
theorem MapIs.keep {w w' : World} {b : Nat} {es : List ((Int × Int) × AV)} (h : MapIs w b es) (he : w'.heap[b]? = w.heap[b]?) : MapIs w' b es:=by
 obtain ⟨ents,clock,h1,h2⟩:=h; exact ⟨ents,clock,he.trans h1,h2⟩
theorem MapIs.lt {w : World} {b : Nat} {es : List ((Int × Int) × AV)} (h : MapIs w b es) : b < w.heap.size:=by
 obtain ⟨_,_,h,_⟩:=h; exact (Array.getElem?_eq_some_iff.1 h).1
structure HR (c : Ctx) (F : Foot) (M : Nat -> Option MB) (hp : Nat -> Option Blk) (nx : Nat) (w : World) : Prop where
 box : ∀ k cs,hp k = some (.box cs) -> ∃ m,M k = some m∧c.w0.heap.size <= m.b∧¬ F m.b∧Own w m∧(m.sz = 1∧cs.length = m.cap)∧RepMC w F M m.b cs 0
 arr : ∀ k sz rows lv,hp k = some (.arr sz rows lv) -> ∃ m,M k = some m∧(m.e,m.sz) = sz∧c.w0.heap.size <= m.b∧(lv = true -> ¬ F m.b)∧(lv = false -> F m.b)∧Own w m∧(rows.length <= m.cap∧m.cap <= maxLen)∧0 < m.sz∧RepR w F m.b m.sz rows 0
 own : ∀ k et cs,hp k = some (.own et cs) -> ∃ m,M k = some m∧(m.e = et∧m.sz = 1)∧c.w0.heap.size <= m.b∧¬ F m.b∧Own w m∧(cs.length <= m.cap∧m.cap <= maxLen)∧RepMC w F M m.b cs 0
 inj : ∀ k k' m m',hp k ≠ none -> hp k' ≠ none -> M k = some m -> M k' = some m' -> m.b = m'.b -> k = k'
 dom : ∀ k,nx <= k -> M k = none∧hp k = none
 fl : ∀ b,F b -> b < w.heap.size
 hist : ∀ b,F b -> c.F0 b ∨ c.w0.heap.size <= b
 gl : ∀ g av,look c.gl g = some av -> RepM w F (fun _ => none) av (.pointer (some ⟨g,0,none⟩))
 bel : Below c.w0.heap.size c.w0 w
 ml : ∀ k m,M k = some m -> m.b < w.heap.size
 al : AlOk c F M c.al w
 base : BaseOk c F M w
 res : ∀ k,hp k = some .res -> M k = none
 mp : ∀ k es,hp k = some (.mp es) -> ∃ m,M k = some m∧c.w0.heap.size <= m.b∧¬ F m.b∧MapIs w m.b es
def mark (D : Nat) : Deferred:={ target:=.collected D,args:=#[] }
def Quiet (P : Program) (d : Deferred) : Prop:=∃ fv cap f args,d.target = .fn fv cap∧(∀ w,(invoke d.target d.args).run P w = .ok (.enter f args) w) ∧
 ∀ w,CallsDIn Fence.wide 0 P f args .returning w fun e u' w' => (∃ v,e = .returned v)∧u' = .returning∧w' = w
def markOf (d : Deferred) : Option Nat:=match d.target with | .collected D => some D | _ => none
def dmarks (ds : List Deferred) : List Nat:=ds.filterMap markOf
theorem dmarks_mark (D : Nat) (ds : List Deferred) : dmarks (mark D :: ds) = D :: dmarks ds:=rfl
theorem Quiet.dmarks {P : Program} {d : Deferred} (h : Quiet P d) (ds : List Deferred) : dmarks (d :: ds) = Ab.dmarks ds:=by
 obtain ⟨fv,cap,f,args,h,_⟩:=h
 unfold Ab.dmarks
 rw [List.filterMap_cons,show markOf d = none by unfold markOf; rw [h]]
def DfOk (c : Ctx) (F : Foot) (M : Nat -> Option MB) (ds : List Deferred) (w : World) : Prop :=
 (∀ D,c.dx = some D -> ds = D)∧(∀ d ∈ ds,(∃ D,d = mark D) ∨ Quiet c.P d)∧(dmarks ds).Nodup∧∀ D ∈ dmarks ds,(Alien c F M D∧(∀ b,c.base = some b -> b.2.2.heap.size <= D))∧w.heap[D]? = some (.deferred (some []))
theorem DfOk.nil {c : Ctx} {F : Foot} {M : Nat -> Option MB} {w : World} (hx : ∀ D,c.dx = some D -> D = []) : DfOk c F M [] w:=⟨fun D h => (hx D h).symm,fun _ h => (by cases h),List.nodup_nil,fun _ h => (by cases h)⟩
theorem DfOk.quiet {c : Ctx} {F : Foot} {M : Nat -> Option MB} {w : World} {d : Deferred} {ds : List Deferred} (hx : c.dx = none) (h : DfOk c F M ds w) (hd : Quiet c.P d) : DfOk c F M (d :: ds) w:=by
 obtain ⟨_,h1,h2,h3⟩:=h
 refine ⟨fun D h => (by rw [hx] at h; cases h),fun e he => ?_,by rw [hd.dmarks]; exact h2,by rw [hd.dmarks]; exact h3⟩
 rcases List.mem_cons.1 he with rfl | he
 ·exact .inr hd
 ·exact h1 e he
theorem DfOk.tr {c : Ctx} {F F' : Foot} {M M' : Nat -> Option MB} {w w' : World} (t : Tr F M w F' M' w') {ds : List Deferred} (h : DfOk c F M ds w) : DfOk c F' M' ds w':=by
 obtain ⟨h0,h1,h2,h3⟩:=h
 refine ⟨h0,h1,h2,fun D hD => ?_⟩
 obtain ⟨h4,h5⟩:=h3 D hD
 obtain ⟨h6,h7⟩:=h4.1.tr t (Array.getElem?_eq_some_iff.1 h5).1
 exact ⟨⟨h6,h4.2⟩,h7.trans h5⟩
structure Rel (c : Ctx) (N : Nat) (F : Foot) (M : Nat -> Option MB) (s : St) (a : Act) (w : World) : Prop extends HR c F M s.hp s.nx w where
 tm : ∀ t,t < N -> RepM w F M (s.tm t) (a.tmps.getD t undef)
 df : DfOk c F M a.defers w
 sz : a.tmps.size = N
def Post (c : Ctx) (N : Nat) (F : Foot) (M : Nat -> Option MB) (w : World) (K : St -> Prop) : Act -> World -> Prop:=fun a' w' =>
 ∃ s' F' M',Rel c N F' M' s' a' w'∧Tr F M w F' M' w'∧K s'
theorem RepM.tr {w w' : World} {F F' : Foot} {M M' : Nat -> Option MB} (t : Tr F M w F' M' w') {a : AV} {v : Value} (h : RepM w F M a v) : RepM w' F' M' a v :=
 RepM.mono t.foot t.cell t.map a v h
theorem RepML.tr {w w' : World} {F F' : Foot} {M M' : Nat -> Option MB} (t : Tr F M w F' M' w') {a : List AV} {v : List Value} (h : RepML w F M a v) : RepML w' F' M' a v :=
 RepML.mono t.foot t.cell t.map a v h
theorem RepMC.keep {w w' : World} {F F' : Foot} {M M' : Nat -> Option MB} (t : Tr F M w F' M' w') {b : Nat} (hb : w'.heap[b]? = w.heap[b]?) : ∀ (l : List AV) (o : Nat),RepMC w F M b l o -> RepMC w' F' M' b l o
 | [],_,_ => trivial
 | c :: cs,o,h => by
   unfold RepMC at h ⊢
   obtain ⟨⟨h0,v,h1,h2⟩,h3⟩:=h
   exact ⟨⟨h0,v,(World.cell?_of_block hb).trans h1,h2.tr t⟩,RepMC.keep t hb cs (o + 1) h3⟩
theorem RepR.keep {w w' : World} {F F' : Foot} (hF : ∀ b,F b -> F' b) (hc : ∀ b,F b -> w'.heap[b]? = w.heap[b]?) {b sz : Nat} (hb : w'.heap[b]? = w.heap[b]?) : ∀ (l : List (List AV)) (o : Nat),RepR w F b sz l o -> RepR w' F' b sz l o
 | [],_,_ => by unfold RepR; trivial
 | r :: rs,o,h => by
   unfold RepR at h ⊢
   refine ⟨h.1,?_,RepR.keep hF hc hb rs (o + sz) h.2.2⟩
   exact go r o h.2.1
where
 go : ∀ (l : List AV) (o : Nat),RepC w F b l o -> RepC w' F' b l o
 | [],_,_ => by unfold RepC; trivial
 | c :: cs,o,h => by
   unfold RepC at h ⊢
   obtain ⟨⟨h0,v,h1,h2⟩,h3⟩:=h
   exact ⟨⟨h0,v,(World.cell?_of_block hb).trans h1,RepD.mono hF hc c v h2⟩,go cs (o + 1) h3⟩
theorem HR.keep {c : Ctx} {F F' : Foot} {M : Nat -> Option MB} {hp : Nat -> Option Blk} {nx : Nat} {w w' : World} (h : HR c F M hp nx w)
  (hb : ∀ b,b < w.heap.size -> w'.heap[b]? = w.heap[b]?) (hF : ∀ b,F b -> F' b) (hn : ∀ b,F' b -> F b ∨ w.heap.size <= b) (hl : ∀ b,F' b -> b < w'.heap.size) (hB : Below c.w0.heap.size c.w0 w') :
  HR c F' M hp nx w'∧Tr F M w F' M w':=by
 have hsz : w.heap.size <= w'.heap.size:=by
  apply Nat.le_of_not_lt; intro hlt
  have:=hb w'.heap.size hlt
  rw [Array.getElem?_eq_none (Nat.le_refl _),Array.getElem?_eq_getElem hlt] at this
  cases this
 have t : Tr F M w F' M w':=⟨hF,fun b h1 => hb b (h.fl b h1),fun _ _ h => h,hsz,fun b h1 => (hn b h1).imp id .inr,fun k m h => .inl ⟨k,m,h,rfl⟩,fun b h1 _ => hb b h1⟩
 refine ⟨⟨fun k cs hk => ?_,fun k sz rows lv hk => ?_,fun k et cs hk => ?_,h.inj,h.dom,hl,fun b hb' => ?_,fun g av hg => RepM.mono t.foot t.cell (fun _ _ h => h) _ _ (h.gl g av hg),hB,fun k m hk => Nat.lt_of_lt_of_le (h.ml k m hk) hsz,h.al.tr t,h.base.tr t,h.res,fun k es hk => (by
  obtain ⟨m,h1,h2,h3,h4⟩:=h.mp k es hk
  exact ⟨m,h1,h2,fun hf => (by
   rcases hn _ hf with hf | hf
   ·exact h3 hf
   ·have:=h4.lt; omega),h4.keep (hb m.b h4.lt)⟩)⟩,t⟩
 ·obtain ⟨m,h1,h2,h3,h4,h5,h6⟩:=h.box k cs hk
  have he:=hb m.b h4.lt
  refine ⟨m,h1,h2,fun hf => ?_,h4.keep he,h5,RepMC.keep t he cs 0 h6⟩
  rcases hn _ hf with hf | hf
  ·exact h3 hf
  ·have:=h4.lt; omega
 ·obtain ⟨m,h1,h0,h2,h3,h4,h5,h6,h7,h8⟩:=h.arr k sz rows lv hk
  have he:=hb m.b h5.lt
  refine ⟨m,h1,h0,h2,fun hlv hf => ?_,fun hlv => hF _ (h4 hlv),h5.keep he,h6,h7,RepR.keep t.foot t.cell he rows 0 h8⟩
  rcases hn _ hf with hf | hf
  ·exact h3 hlv hf
  ·have:=h5.lt; omega
 ·obtain ⟨m,h1,h0,h2,h3,h4,h5,h6⟩:=h.own k et cs hk
  have he:=hb m.b h4.lt
  refine ⟨m,h1,h0,h2,fun hf => ?_,h4.keep he,h5,RepMC.keep t he cs 0 h6⟩
  rcases hn _ hf with hf | hf
  ·exact h3 hf
  ·have:=h4.lt; omega
 ·rcases hn b hb' with h1 | h1
  ·exact h.hist b h1
  ·exact .inr (Nat.le_trans h.bel.size h1)
theorem evOfV {w : World} {F : Foot} {M : Nat -> Option MB} : ∀ (v : Value),RepM w F M (ofV v) v
 | .int _ _ => by unfold ofV RepM; rfl
 | .bool _ => by unfold ofV RepM; rfl
 | .string _ => by unfold ofV RepM; rfl
 | .slice none 0 0 => by unfold ofV RepM; rfl
 | .agg ⟨cs⟩ => by unfold ofV RepM; exact ⟨cs,rfl,go cs⟩
 | .tuple ⟨cs⟩ => by unfold ofV RepM; exact ⟨cs,rfl,go cs⟩
 | .slice none 0 (n + 1) => by unfold ofV RepM; trivial
 | .slice none (n + 1) _ => by unfold ofV RepM; trivial
 | .slice (some _) _ _ => by unfold ofV RepM; trivial
 | .float _ _ => by unfold ofV RepM; trivial
 | .complex _ _ _ => by unfold ofV RepM; trivial
 | .pointer none => by unfold ofV RepM; rfl
 | .pointer (some _) => by unfold ofV RepM; trivial
 | .map _ => by unfold ofV RepM; trivial
 | .chan _ => by unfold ofV RepM; trivial
 | .func _ _ _ => by unfold ofV RepM; trivial
 | .nilFunc => by unfold ofV RepM; trivial
 | .iface _ _ => by unfold ofV RepM; trivial
 | .nilIface => by unfold ofV RepM; rfl
where
 go : ∀ (cs : List Value),RepML w F M (ofVs cs) cs
 | [] => by unfold ofVs RepML; rfl
 | v :: vs => by unfold ofVs RepML; exact ⟨v,vs,rfl,evOfV v,go vs⟩
theorem Rel.ev {c : Ctx} {N : Nat} {F : Foot} {M : Nat -> Option MB} {s : St} {a : Act} {w : World} (h : Rel c N F M s a w) (x : Operand) (hx : ∀ t,x = .tmp t -> t < N) :
  RepM w F M (ev c.gl s x) (a.eval x):=by
 cases x with
 | tmp t => exact h.tm t (hx t rfl)
 | const v => exact evOfV v
 | global g =>
  simp only [Ab.ev,Act.eval]
  cases hg : look c.gl g with
  | none => simp [RepM]
  | some av => exact RepM.mono (fun _ h => h) (fun _ _ => rfl) (fun _ _ h => by cases h) _ _ (h.gl g av hg)
 | func f => unfold Ab.ev RepM; exact ⟨[],rfl,by unfold RepML; rfl⟩
end Ab
end
section
namespace Ab
open Go Go.RowKit
def Fw (ro : Option Nat) : Fence:={ fn:=fun _ => True,depth:=none,alive:=false,round:=ro }
theorem sem_run {ro : Option Nat} {ρ : Operand -> Value} {o : Oper} {P : Program} {w w' : World} {x : Next} (h : (execOp ρ o).run P w = .ok x w') (hx : ∀ d,x ≠ .defer d) :
  (o.semAt ro ρ).run P w = .ok x w':=by
 rw [Oper.semAt_eq ro ρ o fun c hc => ?_]
 ·exact h
 ·simp only [execOp,hc,Sem.run_bind,Result.andThen] at h
  split at h
  ·simp only [Sem.run_pure,Result.ok.injEq] at h
   exact hx _ h.1.symm
  ·cases h
section
variable {c : Ctx} {ro : Option Nat} {N : Nat} {F : Foot} {M : Nat -> Option MB} {s : St} {a : Act} {w : World}
theorem Rel.put (h : Rel c N F M s a w) {d : Option Nat} (hd : ∀ t,d = some t -> t < N) {av : AV} {v : Value} (hv : RepM w F M av v) :
  Rel c N F M (Ab.put d av s) (a.put d v) w:=by
 cases d with
 | none => exact h
 | some d =>
  have hd:=hd d rfl
  refine ⟨h.toHR,fun t ht => ?_,h.df,?_⟩
  ·simp only [Ab.put,Act.put]
   by_cases e : t = d
   ·subst e
    have : t < a.tmps.size:=by rw [h.sz]; exact ht
    simp [this]
    exact hv
   ·have e' : Nat.beq t d = false:=by
     cases hb : Nat.beq t d
     ·rfl
     ·exact absurd (Nat.eq_of_beq_eq_true hb) e
    have : d ≠ t:=fun h => e h.symm
    simp [e',this]
    simpa using h.tm t ht
  ·simp [Act.put,h.sz]
theorem wp_val {P : Program} {o : Oper} {v : Value} {K' : Act -> World -> Prop} {Q : Exit -> Act -> World -> Prop}
  (hrun : (execOp a.eval o).run P w = .ok (.value v) w) (h : K' (a.put o.dst v) w) : o.wpIn (Fw ro) 0 P a w K' Q:=by
 refine ⟨fun _ _ => trivial,?_⟩; rw [sem_run hrun (by simp)]; exact h
theorem wp_pure {P : Program} {o : Oper} {v : Value} {av : AV} {K : St -> Prop} {Q : Exit -> Act -> World -> Prop} (h : Rel c N F M s a w) (hd : ∀ t,o.dst = some t -> t < N)
  (hrun : (execOp a.eval o).run P w = .ok (.value v) w) (hv : RepM w F M av v) (hK : K (Ab.put o.dst av s)) : o.wpIn (Fw ro) 0 P a w (Post c N F M w K) Q :=
 wp_val hrun ⟨_,F,M,h.put hd hv,Tr.refl F M w,hK⟩
theorem nth_eq {α : Type} : ∀ (l : List α) (k : Nat),nth l k = l[k]?
 | [],_ => rfl
 | v :: l,0 => rfl
 | v :: l,k + 1 => by
   show (bif Nat.beq (k + 1) 0 then some v else nth l k) = _
   rw [show Nat.beq (k + 1) 0 = false from rfl,nth_eq l k]; simp
theorem lenL_eq : ∀ l : List AV,lenL l = l.length
 | [] => rfl
 | _ :: l => by simp [lenL,lenL_eq l]
theorem takeL_eq : ∀ (n : Nat) (l : List AV),takeL n l = l.take n
 | 0,l => by simp [takeL]
 | n + 1,[] => rfl
 | n + 1,v :: l => by simp [takeL,takeL_eq n l]
theorem dropL_eq : ∀ (n : Nat) (l : List AV),dropL n l = l.drop n
 | 0,l => rfl
 | n + 1,[] => rfl
 | n + 1,v :: l => by simp [dropL,dropL_eq n l]
theorem appL_eq : ∀ (l m : List AV),appL l m = l ++ m
 | [],m => rfl
 | v :: l,m => by simp [appL,appL_eq l m]
theorem RepML.get : ∀ (l : List AV) (vs : List Value) (k : Nat) (x : AV),RepML w F M l vs -> l[k]? = some x -> ∃ v,vs[k]? = some v∧RepM w F M x v
 | [],_,_,_,_,e => by simp at e
 | x :: l,vs,0,y,h,e => by
   unfold RepML at h
   obtain ⟨v,vs',rfl,h2,h3⟩:=h
   simp at e; subst e
   exact ⟨v,rfl,h2⟩
 | x :: l,vs,k + 1,y,h,e => by
   unfold RepML at h
   obtain ⟨v,vs',rfl,h2,h3⟩:=h
   obtain ⟨u,h4,h5⟩:=RepML.get l vs' k y h3 (by simpa using e)
   exact ⟨u,by simpa using h4,h5⟩
variable {P : Program} {o : Oper} {K : St -> Prop} {Q : Exit -> Act -> World -> Prop}
theorem op_move {x : Operand} (ho : o.op = .move x ∨ o.op = .assign x) (h : Rel c N F M s a w) (hd : ∀ t,o.dst = some t -> t < N) (hx : ∀ t,x = .tmp t -> t < N)
  (hK : force (ev c.gl s x) fun v => K (Ab.put o.dst v s)) : o.wpIn (Fw ro) 0 P a w (Post c N F M w K) Q:=by
 rw [force_eq] at hK
 refine wp_pure h hd ?_ (h.ev x hx) hK
 rcases ho with ho | ho <;> simp [execOp,ho] <;> rfl
theorem eqs_parts {t : TypeId} {i : TyI} {ks : List Bool} (h : tyOf P t = some i) (he : i.eqs = some ks) :
  P.underlying t = some (.struct (P.fieldsOf t))∧P.stoodInHeld t = false∧P.eqGuardType P.depth t = false∧eqFs P 0 (P.fieldsOf t).toList = true∧((P.fieldsOf t).toList.map fun f => isIntT P f.type) = ks:=by
 unfold tyOf at h
 split at h
 ·rename_i ti d e1 e2
  split at h
  ·rename_i z e3
   cases hq : Nat.beq z.cells.size ti.size with
   | false => rw [hq] at h; cases h
   | true =>
    rw [hq] at h
    simp only [cond_true,Option.some.injEq] at h
    subst h
    cases d with
    | struct fs =>
     have ef : P.fieldsOf t = fs:=by unfold Program.fieldsOf; rw [e2]
     simp only at he
     cases hh : eqTy P t fs with
     | false => rw [hh] at he; cases he
     | true =>
      rw [hh] at he
      simp only [Option.some.injEq] at he
      simp only [eqTy,Bool.and_eq_true,Bool.not_eq_true'] at hh
      rw [ef]
      exact ⟨e2,hh.1.1,hh.1.2,hh.2,he⟩
    | _ => cases he
  ·cases h
 ·cases h
theorem eqFields_run {w : World} {F : Foot} {M : Nat -> Option MB} : ∀ (fs : List Field) (j : Nat) (xs ys : List AV) (xv yv : List Value) (K : Bool -> Prop),eqFs P j fs = true -> RepML w F M xs (xv.drop j) -> RepML w F M ys (yv.drop j) -> eqAll (fs.map fun f => isIntT P f.type) xs ys K ->
  ∃ r,(Op.eqFields 9999 ⟨xv⟩ ⟨yv⟩ fs).run P w = .ok r w∧K r
 | [],j,xs,ys,xv,yv,K,h1,h3,h4,h5 => by
   cases xs with
   | cons _ _ => exact h5.elim
   | nil =>
    cases ys with
    | nil => exact ⟨true,rfl,h5⟩
    | cons y _ => exact h5.elim
 | f :: fs,j,xs,ys,xv,yv,K,h1,h3,h4,h5 => by
   rw [List.map_cons] at h5
   cases xs with
   | nil => cases hc : isIntT P f.type <;> rw [hc] at h5 <;> exact h5.elim
   | cons x xs =>
    cases ys with
    | nil => cases hc : isIntT P f.type <;> rw [hc] at h5 <;> cases x <;> exact h5.elim
    | cons y ys =>
     simp only [eqFs,Bool.and_eq_true,Bool.not_eq_true'] at h1
     obtain ⟨⟨e1,e2,e3⟩,e4⟩:=h1
     have e1:=Nat.eq_of_beq_eq_true e1
     have e2 : f.name ≠ "_" := by simpa using e2
     unfold RepML at h3 h4
     obtain ⟨u,us,u1,u2,u3⟩:=h3
     obtain ⟨v,vs,v1,v2,v3⟩:=h4
     have hu : xv[j]? = some u:=by have:=congrArg (fun l => l[0]?) u1; simpa using this
     have hv : yv[j]? = some v:=by have:=congrArg (fun l => l[0]?) v1; simpa using this
     have hus : us = xv.drop (j + 1):=by have:=congrArg List.tail u1; simpa using this.symm
     have hvs : vs = yv.drop (j + 1):=by have:=congrArg List.tail v1; simpa using this.symm
     subst hus hvs
     have step : ∀ (b : Bool),(Op.equalIn 9999 f.type u v).run P w = .ok b w -> eqAll (fs.map fun f => isIntT P f.type) xs ys (fun r => K (and b r)) -> ∃ r,(Op.eqFields 9999 ⟨xv⟩ ⟨yv⟩ (f :: fs)).run P w = .ok r w∧K r:=by
      intro b hb hk
      have hp : ∀ (l : List Value) (q : Value),l[j]? = some q -> (part f.type ⟨l⟩ f.offset).run P w = .ok q w:=by
       intro l q hq
       unfold scal at e3
       cases hd : P.underlying f.type with
       | none => rw [hd] at e3; cases e3
       | some d => cases d <;> simp [hd] at e3 <;> simp [part,isAgg,run_underlying hd,e1,hq]
      simp only [Op.eqFields,if_pos e2,Sem.run_bind,hp xv u hu,hp yv v hv,hb,Result.andThen_ok]
      obtain ⟨r,hr,hr'⟩:=eqFields_run fs (j + 1) xs ys xv yv _ e4 u3 v3 hk
      cases b with
      | false => exact ⟨false,rfl,by simpa using hr'⟩
      | true => exact ⟨r,by simpa using hr,by simpa using hr'⟩
     cases hc : isIntT P f.type with
     | true =>
      rw [hc] at h5
      cases x with
      | int k a =>
       cases y with
       | int k' b =>
        simp only [eqAll] at h5
        cases hk : eqK k k' with
        | false => rw [hk] at h5; exact h5.elim
        | true =>
         rw [hk] at h5
         have hk : k = k':=of_decide_eq_true hk
         subst hk
         unfold RepM at u2 v2
         subst u2 v2
         refine step (a == b) ?_ h5
         unfold isIntT at hc
         cases hd : P.underlying f.type with
         | none => rw [hd] at hc; cases hc
         | some d =>
          cases d with
          | int k0 => exact run_equalIn_int w 9998 f.type k k0 a b hd
          | _ => rw [hd] at hc; cases hc
       | _ => exact h5.elim
      | _ => exact h5.elim
     | false =>
      rw [hc] at h5
      cases x with
      | bool a =>
       cases y with
       | bool b =>
        simp only [eqAll] at h5
        unfold RepM at u2 v2
        subst u2 v2
        refine step (a == b) ?_ h5
        unfold isIntT at hc
        unfold scal at e3
        cases hd : P.underlying f.type with
        | none => rw [hd] at e3; cases e3
        | some d =>
         cases d with
         | bool => exact run_equalIn_bool' w 9998 f.type a b hd
         | int _ => rw [hd] at hc; cases hc
         | _ => rw [hd] at e3; cases e3
       | _ => exact h5.elim
      | _ => exact h5.elim
theorem op_bin {op : BinOp} {t t' : TypeId} {x y : Operand} (ho : o.op = .binOp op t x y t') (h : Rel c N F M s a w) (hd : ∀ t,o.dst = some t -> t < N) (hx : ∀ t,x = .tmp t -> t < N) (hy : ∀ t,y = .tmp t -> t < N)
  (hT : TOk P c.T)
  (hK : bin (look c.T t) op (ev c.gl s x) (ev c.gl s y) fun v => K (Ab.put o.dst v s)) : o.wpIn (Fw ro) 0 P a w (Post c N F M w K) Q:=by
 have hx':=h.ev x hx
 have hy':=h.ev y hy
 generalize ev c.gl s x = ax at hx' hK
 generalize ev c.gl s y = ay at hy' hK
 cases ax with
 | int k p =>
  cases ay with
  | int k' q =>
   unfold RepM at hx' hy'
   by_cases hsh : op = .shl ∨ op = .shr
   ·rcases hsh with rfl | rfl
    ·simp only [bin] at hK
     refine wp_pure h hd (v:=.int k (k.wrap (p * 2 ^ (min q.toNat k.bits)))) ?_ (by unfold RepM; rfl) hK.2
     simp [execOp,ho,hx',hy',Go.binOp,Op.shift,eqGuard,Int.not_lt.2 hK.1]
    ·simp only [bin] at hK
     refine wp_pure h hd (v:=.int k (p.fdiv (2 ^ (min q.toNat k.bits)))) ?_ (by unfold RepM; rfl) hK.2
     simp [execOp,ho,hx',hy',Go.binOp,Op.shift,eqGuard,Int.not_lt.2 hK.1]
   ·by_cases hk : k = k'
    ·subst hk
     have e1 : eqK k k = true:=by simp [eqK]
     cases op
     all_goals simp only [bin,e1] at hK
     all_goals first
      | exact hK.elim
      | exact absurd rfl (fun e => hsh (by first | exact .inl e | exact .inr e))
      | (refine wp_pure h hd ?_ (by unfold RepM; rfl) hK; simp [execOp,ho,hx',hy',Go.binOp,Op.intArith,Op.intCmp,eqGuard]; done)
      | (refine wp_pure h hd ?_ (by unfold RepM; rfl) hK.2; simp [execOp,ho,hx',hy',Go.binOp,Op.intDiv,eqGuard,hK.1])
      | (refine wp_pure h hd ?_ (by unfold RepM; rfl) hK; simp [execOp,ho,hx',hy',Go.binOp,eqGuard,intBits_and,intBits_or,intBits_xor,intBits_andNot]; done)
    ·have e1 : eqK k k' = false:=by simp [eqK,hk]
     cases op <;> simp only [bin,e1] at hK
     all_goals first | exact hK.elim | exact absurd rfl (fun e => hsh (by first | exact .inl e | exact .inr e))
  | _ => simp [bin] at hK
 | bool p =>
  cases ay with
  | bool q =>
   unfold RepM at hx' hy'
   simp only [bin] at hK
   cases ht : look c.T t with
   | none => simp [ht] at hK
   | some i =>
    simp only [ht] at hK
    obtain ⟨_,d,_,_,hu,_,_,_,_,_,_,_,_,_,_,_,hbo,_⟩:=hT.parts ht
    cases hb : i.bo with
    | false => simp [hb] at hK
    | true =>
     simp only [hb] at hK
     rw [hbo hb] at hu
     cases op
     all_goals simp only at hK
     all_goals first
      | exact hK.elim
      | (refine wp_pure h hd ?_ (by unfold RepM; rfl) hK; simp [execOp,ho,hx',hy',Go.binOp,eqGuard,run_equal_bool _ _ _ _ hu,Result.andThen]; done)
      | (refine wp_pure h hd ?_ (by unfold RepM; rfl) hK; simp [execOp,ho,hx',hy',Go.binOp,eqGuard,run_equal_bool _ _ _ _ hu,Result.andThen]; cases p <;> cases q <;> rfl)
  | _ => simp [bin] at hK
 | str p =>
  cases ay with
  | str q =>
   unfold RepM at hx' hy'
   simp only [bin] at hK
   have he : (p.toList == q.toList) = (p.data.toList == q.data.toList):=by simp [ByteArray.toList_eq]
   cases op
   all_goals simp only at hK
   all_goals first
    | exact hK.elim
    | (refine wp_pure h hd ?_ (by unfold RepM; rfl) hK; simp only [execOp,ho,hx',hy',Go.binOp,eqGuard,Op.stringOp,he]; simp; done)
  | _ => simp [bin] at hK
 | agg xs =>
  cases ay with
  | agg ys =>
   unfold RepM at hx' hy'
   obtain ⟨xv,hx1,hx2⟩:=hx'
   obtain ⟨yv,hy1,hy2⟩:=hy'
   simp only [bin] at hK
   cases ht : look c.T t with
   | none => simp [ht] at hK
   | some i =>
    simp only [ht] at hK
    cases hb : i.eqs with
    | none => simp [hb] at hK
    | some ks =>
     simp only [hb] at hK
     obtain ⟨hu,hst,heg,hfs,rfl⟩:=eqs_parts (hT t i ht) hb
     have key : ∀ (K' : Bool -> Prop),eqAll ((P.fieldsOf t).toList.map fun f => isIntT P f.type) xs ys K' -> ∃ r,(Op.equalIn 10000 t (.agg ⟨xv⟩) (.agg ⟨yv⟩)).run P w = .ok r w∧K' r:=by
      intro K' h1
      rw [show (10000 : Nat) = 9999 + 1 from rfl,run_equalIn_agg w 9999 t ⟨xv⟩ ⟨yv⟩ hu hst]
      exact eqFields_run _ 0 xs ys xv yv K' hfs (by simpa using hx2) (by simpa using hy2) h1
     cases op
     all_goals simp only at hK
     all_goals first
      | exact hK.elim
      | (obtain ⟨r,h1,h2⟩:=key _ hK
         refine wp_pure h hd ?_ (by unfold RepM; rfl) h2
         simp [execOp,ho,hx1,hy1,run_eqGuard_agg w _ t x y _ _ heg,run_eql_struct,run_neq_struct,h1,Result.andThen]; done)
  | _ => simp [bin] at hK
 | _ => simp [bin] at hK
theorem op_un {op : UnOp} {t : TypeId} {x : Operand} (ho : o.op = .unOp op t x) (h : Rel c N F M s a w) (hd : ∀ t,o.dst = some t -> t < N) (hx : ∀ t,x = .tmp t -> t < N)
  (hK : un op (ev c.gl s x) fun v => K (Ab.put o.dst v s)) : o.wpIn (Fw ro) 0 P a w (Post c N F M w K) Q:=by
 have hx':=h.ev x hx
 generalize ev c.gl s x = ax at hx' hK
 cases ax <;> cases op <;> simp only [un] at hK
 all_goals
  first
   | exact hK.elim
   | (unfold RepM at hx'
      refine wp_pure h hd ?_ (by unfold RepM; rfl) hK
      simp [execOp,ho,hx',Op.unary,Op.intArith])
theorem k_ty {P : Program} {t : TypeId} {i : TyI} {k : IntKind} (h : tyOf P t = some i) (hs : i.k = some k) : P.underlying t = some (.int k):=by
 unfold tyOf at h
 split at h
 ·rename_i ti d e1 e2
  split at h
  ·rename_i z e3
   cases hq : Nat.beq z.cells.size ti.size with
   | false => rw [hq] at h; cases h
   | true =>
    rw [hq] at h
    simp only [cond_true,Option.some.injEq] at h
    subst h
    rw [e2]
    cases d <;> first | (simp at hs; done) | (simp at hs; rw [hs])
  ·cases h
 ·cases h
theorem st_ty {P : Program} {t : TypeId} {i : TyI} (h : tyOf P t = some i) (hs : i.st = true) : P.underlying t = some .string:=by
 unfold tyOf at h
 split at h
 ·rename_i ti d e1 e2
  split at h
  ·rename_i z e3
   cases hq : Nat.beq z.cells.size ti.size with
   | false => rw [hq] at h; cases h
   | true =>
    rw [hq] at h
    simp only [cond_true,Option.some.injEq] at h
    subst h
    rw [e2]
    cases d <;> first | rfl | (simp at hs; done)
  ·cases h
 ·cases h
theorem nums_rows {w : World} {F : Foot} {b : Nat} : ∀ {rows : List (List AV)} {l : List Int} {o sz : Nat},numsOf rows = some l -> RepR w F b sz rows o -> l.length = rows.length∧(rows ≠ [] -> sz = 1)∧∀ i,i < l.length -> w.cell? ⟨b,o + i * sz,none⟩ = some (.int .u8 (l.getD i 0))
 | [],l,o,sz,h,_ => by
  simp only [numsOf,Option.some.injEq] at h
  subst h
  exact ⟨rfl,fun h => absurd rfl h,fun i hi => absurd hi (Nat.not_lt_zero i)⟩
 | r :: rows,l,o,sz,h,hr => by
  unfold numsOf at h
  split at h
  ·rename_i heq; cases heq
  ·rename_i n rows1 heq
   simp only [List.cons.injEq] at heq
   obtain ⟨rfl,rfl⟩:=heq
   cases hl : numsOf rows with
   | none => rw [hl] at h; cases h
   | some l' =>
    rw [hl] at h
    simp only [Option.some.injEq] at h
    subst h
    unfold RepR at hr
    obtain ⟨h1,h2,h3⟩:=hr
    have hs : sz = 1:=by rw [<- h1]; rfl
    obtain ⟨g1,_,g3⟩:=nums_rows hl h3
    unfold RepC at h2
    obtain ⟨⟨_,v,h4,h5⟩,_⟩:=h2
    unfold RepD at h5
    subst h5
    refine ⟨by simp [g1],fun _ => hs,fun i hi => ?_⟩
    cases i with
    | zero => simpa using h4
    | succ i =>
     have:=g3 i (by simpa using hi)
     rw [show o + (i + 1) * sz = o + sz + i * sz by rw [Nat.add_mul]; omega]
     simpa using this
  ·cases h
theorem op_strOfX {t u : TypeId} {x : Operand} {ax : AV} {F' : Foot} (ho : o.op = .convert t u x) (hT : TOk P c.T) (h : Rel c N F M s a w) (hd : ∀ t,o.dst = some t -> t < N) (hx' : RepM w F' M ax (a.eval x))
  (hK : aStrOf c.T t u ax fun v => K (Ab.put o.dst v s)) : o.wpIn (Fw ro) 0 P a w (Post c N F M w K) Q:=by
 unfold aStrOf at hK
 cases he : ((look c.T t).bind fun i => i.sl).bind (look c.T) with
 | none => rw [he] at hK; exact hK.elim
 | some e =>
  rw [he] at hK
  obtain ⟨et,het,hle⟩:=Option.bind_eq_some_iff.1 he
  obtain ⟨it,hit,hsl⟩:=Option.bind_eq_some_iff.1 het
  obtain ⟨_,d,_,_,hu,_,_,_,_,h1,_⟩:=hT.parts hit
  rw [h1 et hsl] at hu
  simp only at hK
  split at hK
  ·rename_i hk
   have hue:=k_ty (hT et e hle) hk
   cases hl : look c.T u with
   | none => rw [hl] at hK; exact hK.elim
   | some i =>
    rw [hl] at hK
    simp only at hK
    cases hst : i.st with
    | false => rw [hst] at hK; exact hK.elim
    | true =>
     rw [hst] at hK
     have hus:=st_ty (hT u i hl) hst
     simp only at hK
     split at hK
     ·rename_i r rows
      cases hn : numsOf (r :: rows) with
      | none => rw [hn] at hK; exact hK.elim
      | some l =>
       rw [hn] at hK
       unfold RepM RepD at hx'
       obtain ⟨p,cp,g1,g2,g3,g4⟩:=hx'
       rcases g4 with g4 | ⟨b,off,sz,rfl,g5,g6⟩
       ·cases g4
       ·obtain ⟨e1,e2,e3⟩:=nums_rows hn g6
        have e2:=e2 (by simp)
        subst e2
        have hr:=run_convert_bytes_arg (P:=P) w t et hu hue b off (r :: rows).length cp l e1 (fun i hi => by
         have:=e3 i (by omega)
         rwa [Nat.mul_one] at this) u hus
        refine wp_pure h hd (v:=.string (strN l)) ?_ (by unfold RepM; rfl) hK
        have : strOfNums l = strN l:=rfl
        simp only [List.length_cons] at g1 hr
        simp [execOp,ho,g1,hr,this]
     ·exact hK.elim
  ·exact hK.elim
theorem op_strOf {t u : TypeId} {x : Operand} (ho : o.op = .convert t u x) (hT : TOk P c.T) (h : Rel c N F M s a w) (hd : ∀ t,o.dst = some t -> t < N) (hx : ∀ t,x = .tmp t -> t < N)
  (hK : aStrOf c.T t u (ev c.gl s x) fun v => K (Ab.put o.dst v s)) : o.wpIn (Fw ro) 0 P a w (Post c N F M w K) Q:=op_strOfX ho hT h hd (h.ev x hx) hK
theorem op_convert {t u : TypeId} {x : Operand} (ho : o.op = .convert t u x) (hT : TOk P c.T) (hs : (P.underlying t).isSome = true) (h : Rel c N F M s a w) (hd : ∀ t,o.dst = some t -> t < N) (hx : ∀ t,x = .tmp t -> t < N)
  (hK : match (look c.T u).bind fun i => i.k with
   | some k => match ev c.gl s x with | .int _ n => K (Ab.put o.dst (.int k (k.wrap n)) s) | _ => False
   | none => aStrOf c.T t u (ev c.gl s x) fun v => K (Ab.put o.dst v s)) : o.wpIn (Fw ro) 0 P a w (Post c N F M w K) Q:=by
 have hx':=h.ev x hx
 cases hu : (look c.T u).bind fun i => i.k with
 | none => rw [hu] at hK; exact op_strOf ho hT h hd hx hK
 | some k =>
  rw [hu] at hK
  generalize ev c.gl s x = ax at hx' hK
  cases ax with
  | int k' n =>
   simp only at hK
   unfold RepM at hx'
   cases hl : look c.T u with
   | none => simp [hl] at hu
   | some i =>
    simp [hl] at hu
    obtain ⟨_,d,_,_,hd',_,_,_,_,_,_,_,_,_,_,hk,_⟩:=hT.parts hl
    rw [hk k hu] at hd'
    obtain ⟨ds,hds⟩:=Option.isSome_iff_exists.1 hs
    refine wp_pure h hd ?_ (by unfold RepM; rfl) hK
    simp [execOp,ho,hx',Go.convert,run_underlying hds,run_underlying hd',Conv.intToInt]
  | _ => exact hK.elim
theorem op_extract {x : Operand} {i : Nat} (ho : o.op = .extract x i) (h : Rel c N F M s a w) (hd : ∀ t,o.dst = some t -> t < N) (hx : ∀ t,x = .tmp t -> t < N)
  (hK : match ev c.gl s x with | .tup vs => (match nth vs i with | some v => force v fun v => K (Ab.put o.dst v s) | none => False) | _ => False) : o.wpIn (Fw ro) 0 P a w (Post c N F M w K) Q:=by
 have hx':=h.ev x hx
 generalize ev c.gl s x = ax at hx' hK
 cases ax with
 | tup vs =>
  simp only [nth_eq] at hK
  cases hi : vs[i]? with
  | none => rw [hi] at hK; exact hK.elim
  | some v =>
   rw [hi] at hK
   simp only [force_eq] at hK
   unfold RepM at hx'
   obtain ⟨ws,h1,h2⟩:=hx'
   obtain ⟨u,h3,h4⟩:=RepML.get vs ws i v h2 hi
   refine wp_pure h hd ?_ h4 hK
   simp [execOp,ho,h1,Instr.extract,h3]
 | _ => exact hK.elim
theorem op_nilCheck {x : Operand} (ho : o.op = .nilCheck x) (h : Rel c N F M s a w) (hd : ∀ t,o.dst = some t -> t < N) (hx : ∀ t,x = .tmp t -> t < N)
  (hK : match ev c.gl s x with | .bp k i => K (Ab.put o.dst (.bp k i) s) | .ap k r i => K (Ab.put o.dst (.ap k r i) s) | .er row i => K (Ab.put o.dst (.er row i) s) | .fn f c => K (Ab.put o.dst (.fn f c) s) | _ => False) :
  o.wpIn (Fw ro) 0 P a w (Post c N F M w K) Q:=by
 have hx':=h.ev x hx
 generalize ev c.gl s x = ax at hx' hK
 cases ax with
 | bp k i =>
  have h1:=hx'
  unfold RepM at h1
  obtain ⟨m,_,h2⟩:=h1
  exact wp_pure h hd (by simp [execOp,ho,h2]) (h2 ▸ hx') hK
 | ap k r i =>
  have h1:=hx'
  unfold RepM at h1
  obtain ⟨m,_,h2⟩:=h1
  exact wp_pure h hd (by simp [execOp,ho,h2]) (h2 ▸ hx') hK
 | er row i =>
  have h1:=hx'
  unfold RepM at h1
  obtain ⟨b,off,h2,_⟩:=h1
  exact wp_pure h hd (by simp [execOp,ho,h2]) (h2 ▸ hx') hK
 | fn f cap =>
  have h1:=hx'
  unfold RepM at h1
  obtain ⟨vs,h2,_⟩:=h1
  exact wp_pure h hd (by simp [execOp,ho,h2]) (h2 ▸ hx') hK
 | _ => exact hK.elim
theorem Rel.evs (h : Rel c N F M s a w) : ∀ (xs : List Operand),(∀ x ∈ xs,∀ t,x = .tmp t -> t < N) -> RepML w F M (evs c.gl s xs) (xs.map a.eval)
 | [],_ => by unfold Ab.evs RepML; rfl
 | x :: xs,hx => by
   unfold Ab.evs RepML
   exact ⟨_,_,rfl,h.ev x (hx x (by simp)),Rel.evs h xs fun y hy => hx y (by simp [hy])⟩
theorem op_makeFunc {f : FuncId} {cap : Array Operand} (ho : o.op = .makeFunc (.func f) #[] cap) (h : Rel c N F M s a w) (hd : ∀ t,o.dst = some t -> t < N) (hx : ∀ x ∈ cap.toList,∀ t,x = .tmp t -> t < N)
  (hK : forceL (evs c.gl s cap.toList) fun cs => K (Ab.put o.dst (.fn f cs) s)) : o.wpIn (Fw ro) 0 P a w (Post c N F M w K) Q:=by
 rw [forceL_eq] at hK
 refine wp_pure h hd (v:=.func (.func f) #[] ⟨cap.toList.map a.eval⟩) ?_ ?_ hK
 ·simp [execOp,ho,Instr.makeFunc]; exact Array.ext' (by simp)
 ·unfold RepM; exact ⟨_,rfl,h.evs _ hx⟩
theorem op_pick {t x y : Operand} (ho : o.op = .pick t x y) (h : Rel c N F M s a w) (hd : ∀ t,o.dst = some t -> t < N) (ht : ∀ u,t = .tmp u -> u < N) (hx : ∀ t,x = .tmp t -> t < N) (hy : ∀ t,y = .tmp t -> t < N)
  (hK : match ev c.gl s t with | .bool t => pickA t (ev c.gl s x) (ev c.gl s y) fun v => K (Ab.put o.dst v s) | _ => False) : o.wpIn (Fw ro) 0 P a w (Post c N F M w K) Q:=by
 have ht':=h.ev t ht
 have hx':=h.ev x hx
 have hy':=h.ev y hy
 generalize ev c.gl s t = at' at ht' hK
 generalize ev c.gl s x = ax at hx' hK
 generalize ev c.gl s y = ay at hy' hK
 cases at' with
 | bool b =>
  unfold RepM at ht'
  have key : ∃ av,RepM w F M av (if b = true then a.eval x else a.eval y)∧K (Ab.put o.dst av s):=by
   have gen : ((b = true -> force ax fun v => K (Ab.put o.dst v s))∧(b = false -> force ay fun v => K (Ab.put o.dst v s))) -> ∃ av,RepM w F M av (if b = true then a.eval x else a.eval y)∧K (Ab.put o.dst av s):=by
    rintro ⟨h1,h2⟩
    cases b with
    | true => exact ⟨ax,by simpa using hx',by simpa [force_eq] using h1 rfl⟩
    | false => exact ⟨ay,by simpa using hy',by simpa [force_eq] using h2 rfl⟩
   cases ax with
   | bool p =>
    cases ay with
    | bool q =>
     simp only [pickA] at hK
     refine ⟨_,?_,hK⟩
     unfold RepM at hx' hy' ⊢
     cases b <;> simp [hx',hy']
    | _ => exact gen (by simpa only [pickA,force] using hK)
   | _ => exact gen (by simpa only [pickA] using hK)
  obtain ⟨av,h1,h2⟩:=key
  refine wp_pure h hd ?_ h1 h2
  simp [execOp,ho,ht',asBool]
 | _ => exact hK.elim
theorem op_minmax {mx : Bool} {args : Array Operand} {ts : Array TypeId} (ho : o.op = .call { callee:=.builtin (if mx then .max else .min),args:=args,argTypes:=ts }) (h : Rel c N F M s a w) (hd : ∀ t,o.dst = some t -> t < N)
  (hx : ∀ x ∈ args.toList,∀ t,x = .tmp t -> t < N) (hK : aMinMax mx (evs c.gl s args.toList) fun v => K (Ab.put o.dst v s)) : o.wpIn (Fw ro) 0 P a w (Post c N F M w K) Q:=by
 have he:=h.evs args.toList hx
 generalize evs c.gl s args.toList = vs at he hK
 unfold aMinMax at hK
 split at hK
 ·rename_i k p k' q
  unfold RepML at he
  obtain ⟨v,vs',h1,h2,h3⟩:=he
  unfold RepML at h3
  obtain ⟨v',vs'',h4,h5,h6⟩:=h3
  unfold RepML at h6
  unfold RepM at h2 h5
  subst h6 h4 h2 h5
  have e2 : args.map a.eval = #[.int k p,.int k' q]:=by
   apply Array.ext'
   simpa using h1
  cases mx with
  | true =>
   simp only at hK
   refine wp_pure h hd ?_ (by unfold RepM; rfl) hK
   simp [execOp,ho,resolve,invoke,builtin,e2,Builtin.max_,Builtin.max2]
  | false =>
   simp only at hK
   refine wp_pure h hd ?_ (by unfold RepM; rfl) hK
   simp [execOp,ho,resolve,invoke,builtin,e2,Builtin.min_,Builtin.min2]
 ·rename_i k p k' q k'' q'
  unfold RepML at he
  obtain ⟨v,vs',h1,h2,h3⟩:=he
  unfold RepML at h3
  obtain ⟨v',vs'',h4,h5,h6⟩:=h3
  unfold RepML at h6
  obtain ⟨v'',vs''',h7,h8,h9⟩:=h6
  unfold RepML at h9
  unfold RepM at h2 h5 h8
  subst h9 h7 h4 h2 h5 h8
  have e2 : args.map a.eval = #[.int k p,.int k' q,.int k'' q']:=by
   apply Array.ext'
   simpa using h1
  cases mx with
  | true =>
   simp only [mm2] at hK
   refine wp_pure h hd ?_ (by unfold RepM; rfl) hK
   simp [execOp,ho,resolve,invoke,builtin,e2,Builtin.max_,Builtin.max2]
   rfl
  | false =>
   simp only [mm2] at hK
   refine wp_pure h hd ?_ (by unfold RepM; rfl) hK
   simp [execOp,ho,resolve,invoke,builtin,e2,Builtin.min_,Builtin.min2]
   rfl
 ·rename_i k p k' q k'' q' k3 q3
  unfold RepML at he
  obtain ⟨v,vs',h1,h2,h3⟩:=he
  unfold RepML at h3
  obtain ⟨v',vs'',h4,h5,h6⟩:=h3
  unfold RepML at h6
  obtain ⟨v'',vs''',h7,h8,h9⟩:=h6
  unfold RepML at h9
  obtain ⟨v3,vs3,i1,i2,i3⟩:=h9
  unfold RepML at i3
  unfold RepM at h2 h5 h8 i2
  subst i3 i1 h7 h4 h2 h5 h8 i2
  have e2 : args.map a.eval = #[.int k p,.int k' q,.int k'' q',.int k3 q3]:=by
   apply Array.ext'
   simpa using h1
  cases mx with
  | true =>
   simp only [mm2] at hK
   refine wp_pure h hd ?_ (by unfold RepM; rfl) hK
   simp [execOp,ho,resolve,invoke,builtin,e2,Builtin.max_,Builtin.max2]
   rfl
  | false =>
   simp only [mm2] at hK
   refine wp_pure h hd ?_ (by unfold RepM; rfl) hK
   simp [execOp,ho,resolve,invoke,builtin,e2,Builtin.min_,Builtin.min2]
   rfl
 ·exact hK.elim
theorem op_len {x : Operand} {args : Array Operand} {ts : Array TypeId} {t e : TypeId} (ha : args = #[x]) (hts : ts = #[t]) (ho : o.op = .call { callee:=.builtin .len,args:=args,argTypes:=ts }) (hT : TOk P c.T) (he : (look c.T t).bind (fun i => i.sl) = some e)
  (h : Rel c N F M s a w) (hd : ∀ t,o.dst = some t -> t < N) (hx : ∀ t,x = .tmp t -> t < N) (hs : ∀ q,ev c.gl s x ≠ .str q)
  (hK : lenOf (ev c.gl s x) fun n => K (Ab.put o.dst (.int .i64 n) s)) : o.wpIn (Fw ro) 0 P a w (Post c N F M w K) Q:=by
 have hx':=h.ev x hx
 generalize ev c.gl s x = ax at hx' hK hs
 obtain ⟨i,hi,hsl⟩ : ∃ i,look c.T t = some i∧i.sl = some e:=by
  cases hl : look c.T t with
  | none => simp [hl] at he
  | some i => exact ⟨i,rfl,by simpa [hl] using he⟩
 obtain ⟨_,d,_,_,hu,_,_,_,_,h1,_⟩:=hT.parts hi
 rw [h1 e hsl] at hu
 have key : ∀ (p : Option Addr) (n cp : Nat),a.eval x = .slice p n cp -> K (Ab.put o.dst (.int .i64 n) s) -> o.wpIn (Fw ro) 0 P a w (Post c N F M w K) Q:=by
  intro p n cp hv hK
  refine wp_pure h hd ?_ (by unfold RepM; rfl) hK
  simp [execOp,ho,ha,hts,resolve,invoke,builtin,hv,Builtin.len_,run_underlying hu,goInt]
 cases ax with
 | sl rows =>
  unfold RepM RepD at hx'
  obtain ⟨p,cp,h1,_⟩:=hx'
  exact key _ _ _ h1 hK
 | nil => unfold RepM at hx'; exact key _ _ _ hx' hK
 | ms k off n =>
  unfold RepM at hx'
  obtain ⟨m,_,⟨h1,_⟩ | ⟨rfl,_,p,cp,h1,_⟩⟩:=hx'
  ·exact key _ _ _ h1 hK
  ·exact key _ _ _ h1 hK
 | str q => exact absurd rfl (hs q)
 | _ => exact hK.elim
end
end Ab
end
section
namespace Ab
open Go Go.RowKit
def BlkOk (w : World) (F : Foot) (M : Nat -> Option MB) (m : MB) : Blk -> Prop
 | .box cs => (m.sz = 1∧cs.length = m.cap)∧RepMC w F M m.b cs 0
 | .own et cs => (m.e = et∧m.sz = 1)∧(cs.length <= m.cap∧m.cap <= maxLen)∧RepMC w F M m.b cs 0
 | .res => False
 | .mp es => MapIs w m.b es
 | .arr sz rows lv => (m.e,m.sz) = sz∧lv = true∧(rows.length <= m.cap∧m.cap <= maxLen)∧0 < m.sz∧RepR w F m.b m.sz rows 0
theorem upd_same (k : Nat) (b : Option Blk) (h : Nat -> Option Blk) : upd k b h k = b:=by simp [upd]
theorem beq_ne {j k : Nat} (e : j ≠ k) : Nat.beq j k = false:=by
 cases h : Nat.beq j k
 ·rfl
 ·exact absurd (Nat.eq_of_beq_eq_true h) e
theorem upd_ne {j k : Nat} (e : j ≠ k) (b : Option Blk) (h : Nat -> Option Blk) : upd k b h j = h j:=by simp [upd,beq_ne e]
section
variable {c : Ctx} {F : Foot} {M : Nat -> Option MB} {hp : Nat -> Option Blk} {nx : Nat} {w w' : World}
theorem HR.owned (h : HR c F M hp nx w) {k : Nat} {m : MB} (hk : hp k ≠ none) (hm : M k = some m) : c.w0.heap.size <= m.b∧m.b < w.heap.size:=by
 cases hb : hp k with
 | none => exact absurd hb hk
 | some b =>
  cases b with
  | res => have:=h.res k hb; rw [hm] at this; cases this
  | box cs =>
   obtain ⟨m',h1,h2,_,h4,_⟩:=h.box k cs hb
   rw [hm] at h1; cases h1
   exact ⟨h2,h4.lt⟩
  | arr sz rows lv =>
   obtain ⟨m',h1,_,h2,_,_,h4,_⟩:=h.arr k sz rows lv hb
   rw [hm] at h1; cases h1
   exact ⟨h2,h4.lt⟩
  | mp es =>
   obtain ⟨m',h1,h2,_,h4⟩:=h.mp k es hb
   rw [hm] at h1; cases h1
   exact ⟨h2,h4.lt⟩
  | own et cs =>
   obtain ⟨m',h1,_,h2,_,h4,_⟩:=h.own k et cs hb
   rw [hm] at h1; cases h1
   exact ⟨h2,h4.lt⟩
theorem HR.writeB (h : HR c F M hp nx w) {k : Nat} {m : MB} {blk : Blk} (hk : hp k ≠ none) (hm : M k = some m) (hnF : ¬ F m.b)
  (hoth : ∀ b,b ≠ m.b -> w'.heap[b]? = w.heap[b]?) (hsz : w'.heap.size = w.heap.size) (hB : Below c.w0.heap.size c.w0 w') (hown : (∀ es,blk ≠ .mp es) -> Own w' m)
  (hblk : Tr F M w F M w' -> BlkOk w' F M m blk) : HR c F M (upd k (some blk) hp) nx w'∧Tr F M w F M w':=by
 have t : Tr F M w F M w':=⟨fun _ h => h,fun b hb => hoth b (fun e => hnF (e ▸ hb)),fun _ _ h => h,by omega,fun _ h => .inl h,fun k m h => .inl ⟨k,m,h,rfl⟩,fun b _ hn => hoth b fun e => hn k m hm e.symm⟩
 have hbase:=(h.owned hk hm).1
 have hblk:=hblk t
 have ne : ∀ j mj,j ≠ k -> hp j ≠ none -> M j = some mj -> mj.b ≠ m.b:=fun j mj hj hpj hmj e => hj (h.inj j k mj m hpj hk hmj hm e)
 refine ⟨⟨fun j cs hj => ?_,fun j sz rows lv hj => ?_,fun j et cs hj => ?_,fun j j' mj mj' hj hj' h1 h2 e => ?_,fun j hj => ?_,fun b hb => by rw [hsz]; exact h.fl b hb,h.hist,fun g av hg => RepM.mono t.foot t.cell (fun _ _ h => h) _ _ (h.gl g av hg),hB,fun k m hk => by rw [hsz]; exact h.ml k m hk,h.al.tr t,h.base.tr t,fun j hj => (by
  by_cases e : j = k
  ·subst e; rw [upd_same] at hj; cases hj; exact hblk.elim
  ·rw [upd_ne e] at hj; exact h.res j hj),fun j es hj => (by
  by_cases e : j = k
  ·subst e; rw [upd_same] at hj; cases hj; exact ⟨m,hm,hbase,hnF,hblk⟩
  ·rw [upd_ne e] at hj
   obtain ⟨mj,h1,h2,h3,h4⟩:=h.mp j es hj
   exact ⟨mj,h1,h2,h3,h4.keep (hoth mj.b (ne j mj e (by rw [hj]; simp) h1))⟩)⟩,t⟩
 ·by_cases e : j = k
  ·subst e
   rw [upd_same] at hj; cases hj
   exact ⟨m,hm,hbase,hnF,hown (by simp),hblk.1,hblk.2⟩
  ·rw [upd_ne e] at hj
   obtain ⟨mj,h1,h2,h3,h4,h5,h6⟩:=h.box j cs hj
   have:=hoth mj.b (ne j mj e (by rw [hj]; simp) h1)
   exact ⟨mj,h1,h2,h3,h4.keep this,h5,RepMC.keep t this cs 0 h6⟩
 ·by_cases e : j = k
  ·subst e
   rw [upd_same] at hj; cases hj
   obtain ⟨h0,rfl,h2,h3,h4⟩:=hblk
   exact ⟨m,hm,h0,hbase,fun _ => hnF,fun h => (by cases h),hown (by simp),h2,h3,h4⟩
  ·rw [upd_ne e] at hj
   obtain ⟨mj,h1,h0,h2,h3,h4,h5,h6,h7,h8⟩:=h.arr j sz rows lv hj
   have:=hoth mj.b (ne j mj e (by rw [hj]; simp) h1)
   exact ⟨mj,h1,h0,h2,h3,h4,h5.keep this,h6,h7,RepR.keep t.foot t.cell this rows 0 h8⟩
 ·by_cases e : j = k
  ·subst e
   rw [upd_same] at hj; cases hj
   obtain ⟨h0,h2,h4⟩:=hblk
   exact ⟨m,hm,h0,hbase,hnF,hown (by simp),h2,h4⟩
  ·rw [upd_ne e] at hj
   obtain ⟨mj,h1,h0,h2,h3,h4,h5,h6⟩:=h.own j et cs hj
   have:=hoth mj.b (ne j mj e (by rw [hj]; simp) h1)
   exact ⟨mj,h1,h0,h2,h3,h4.keep this,h5,RepMC.keep t this cs 0 h6⟩
 ·have hk' : ∀ j,upd k (some blk) hp j ≠ none -> hp j ≠ none:=fun j hj => by
   by_cases e : j = k
   ·subst e; exact hk
   ·rwa [upd_ne e] at hj
  exact h.inj j j' mj mj' (hk' j hj) (hk' j' hj') h1 h2 e
 ·have:=h.dom j hj
  refine ⟨this.1,?_⟩
  by_cases e : j = k
  ·subst e; rw [hm] at this; cases this.1
  ·rw [upd_ne e]; exact this.2
theorem HR.dropW (h : HR c F M hp nx w) {k : Nat} {m : MB} (hk : hp k ≠ none) (hm : M k = some m) (hnF : ¬ F m.b)
  (hoth : ∀ b,b ≠ m.b -> w'.heap[b]? = w.heap[b]?) (hsz : w'.heap.size = w.heap.size) (hB : Below c.w0.heap.size c.w0 w') : HR c F M (upd k none hp) nx w'∧Tr F M w F M w':=by
 have t : Tr F M w F M w':=⟨fun _ h => h,fun b hb => hoth b (fun e => hnF (e ▸ hb)),fun _ _ h => h,by omega,fun _ h => .inl h,fun k m h => .inl ⟨k,m,h,rfl⟩,fun b _ hn => hoth b fun e => hn k m hm e.symm⟩
 have ne : ∀ j mj,j ≠ k -> hp j ≠ none -> M j = some mj -> mj.b ≠ m.b:=fun j mj hj hpj hmj e => hj (h.inj j k mj m hpj hk hmj hm e)
 have un : ∀ j b,upd k none hp j = some b -> j ≠ k∧hp j = some b:=fun j b hj => by
  by_cases e : j = k
  ·subst e; rw [upd_same] at hj; cases hj
  ·exact ⟨e,by rwa [upd_ne e] at hj⟩
 refine ⟨⟨fun j cs hj => ?_,fun j sz rows lv hj => ?_,fun j et cs hj => ?_,fun j j' mj mj' hj hj' h1 h2 e => ?_,fun j hj => ?_,fun b hb => by rw [hsz]; exact h.fl b hb,h.hist,fun g av hg => RepM.mono t.foot t.cell (fun _ _ h => h) _ _ (h.gl g av hg),hB,fun k m hk => by rw [hsz]; exact h.ml k m hk,h.al.tr t,h.base.tr t,fun j hj => h.res j (un j _ hj).2,fun j es hj => (by
  obtain ⟨e,hj⟩:=un j _ hj
  obtain ⟨mj,h1,h2,h3,h4⟩:=h.mp j es hj
  exact ⟨mj,h1,h2,h3,h4.keep (hoth mj.b (ne j mj e (by rw [hj]; simp) h1))⟩)⟩,t⟩
 ·obtain ⟨e,hj⟩:=un j _ hj
  obtain ⟨mj,h1,h2,h3,h4,h5,h6⟩:=h.box j cs hj
  have:=hoth mj.b (ne j mj e (by rw [hj]; simp) h1)
  exact ⟨mj,h1,h2,h3,h4.keep this,h5,RepMC.keep t this cs 0 h6⟩
 ·obtain ⟨e,hj⟩:=un j _ hj
  obtain ⟨mj,h1,h0,h2,h3,h4,h5,h6,h7,h8⟩:=h.arr j sz rows lv hj
  have:=hoth mj.b (ne j mj e (by rw [hj]; simp) h1)
  exact ⟨mj,h1,h0,h2,h3,h4,h5.keep this,h6,h7,RepR.keep t.foot t.cell this rows 0 h8⟩
 ·obtain ⟨e,hj⟩:=un j _ hj
  obtain ⟨mj,h1,h0,h2,h3,h4,h5,h6⟩:=h.own j et cs hj
  have:=hoth mj.b (ne j mj e (by rw [hj]; simp) h1)
  exact ⟨mj,h1,h0,h2,h3,h4.keep this,h5,RepMC.keep t this cs 0 h6⟩
 ·have hk' : ∀ j,upd k none hp j ≠ none -> hp j ≠ none:=fun j hj => by
   by_cases e : j = k
   ·subst e; exact hk
   ·rwa [upd_ne e] at hj
  exact h.inj j j' mj mj' (hk' j hj) (hk' j' hj') h1 h2 e
 ·have:=h.dom j hj
  refine ⟨this.1,?_⟩
  by_cases e : j = k
  ·subst e; exact upd_same ..
  ·rw [upd_ne e]; exact this.2
theorem HR.write (h : HR c F M hp nx w) {k : Nat} {m : MB} {blk : Blk} (hk : hp k ≠ none) (hm : M k = some m) (hnF : ¬ F m.b)
  (hoth : ∀ b,b ≠ m.b -> w'.heap[b]? = w.heap[b]?) (hsz : w'.heap.size = w.heap.size) (hB : Below c.w0.heap.size c.w0 w') (hown : Own w' m)
  (hblk : Tr F M w F M w' -> BlkOk w' F M m blk) : HR c F M (upd k (some blk) hp) nx w'∧Tr F M w F M w':=h.writeB hk hm hnF hoth hsz hB (fun _ => hown) hblk
theorem HR.fill (h : HR c F M hp nx w) {n : Nat} (hn : hp n = some .res) {m : MB} {blk : Blk}
  (hoth : ∀ b,b < w.heap.size -> w'.heap[b]? = w.heap[b]?) (hsz : w.heap.size <= w'.heap.size) (hm : w.heap.size <= m.b)
  (hB : Below c.w0.heap.size c.w0 w') (hown : Own w' m)
  (hblk : Tr F M w F (fun j => if j = n then some m else M j) w' -> BlkOk w' F (fun j => if j = n then some m else M j) m blk) :
  HR c F (fun j => if j = n then some m else M j) (upd n (some blk) hp) nx w'∧Tr F M w F (fun j => if j = n then some m else M j) w':=by
 have hMn : M n = none:=h.res n hn
 have hlt : n < nx:=by
  apply Nat.lt_of_not_le; intro hle
  have:=(h.dom n hle).2
  rw [hn] at this; cases this
 have t : Tr F M w F (fun j => if j = n then some m else M j) w':=by
  refine ⟨fun _ h => h,fun b hb => hoth b (h.fl b hb),fun k mk hk => ?_,hsz,fun _ h => .inl h,fun k mk hk => ?_,fun b hb _ => hoth b hb⟩
  ·have : k ≠ n:=fun e => by subst e; rw [hMn] at hk; cases hk
   simp [this,hk]
  ·by_cases e : k = n
   ·simp [e] at hk
    subst hk
    exact .inr hm
   ·simp [e] at hk
    exact .inl ⟨k,mk,hk,rfl⟩
 have hblk:=hblk t
 have hnF : ¬ F m.b:=fun hf => by have:=h.fl _ hf; omega
 have hbase : c.w0.heap.size <= m.b:=Nat.le_trans h.bel.size hm
 have hne : ∀ j b mj,hp j = some b -> M j = some mj -> mj.b ≠ m.b∧w'.heap[mj.b]? = w.heap[mj.b]?:=fun j b mj hj hmj => by
  have ho:=(h.owned (by rw [hj]; simp) hmj).2
  exact ⟨fun e => by omega,hoth mj.b ho⟩
 refine ⟨⟨fun j cs hj => ?_,fun j sz rows lv hj => ?_,fun j et cs hj => ?_,fun j j' mj mj' hj hj' h1 h2 e => ?_,fun j hj => ?_,fun b hb => Nat.lt_of_lt_of_le (h.fl b hb) hsz,h.hist,fun g av hg => RepM.mono t.foot t.cell (fun _ _ h => h) _ _ (h.gl g av hg),hB,fun k mk hk => ?_,h.al.tr t,h.base.tr t,fun j hj => ?_,fun j es hj => (by
  by_cases e : j = n
  ·subst e; rw [upd_same] at hj; cases hj; exact ⟨m,by simp,hbase,hnF,hblk⟩
  ·rw [upd_ne e] at hj
   obtain ⟨mj,h3,h4,h5,h6⟩:=h.mp j es hj
   exact ⟨mj,by simp [e,h3],h4,h5,h6.keep (hne j _ mj hj h3).2⟩)⟩,t⟩
 ·by_cases e : j = n
  ·subst e
   rw [upd_same] at hj; cases hj
   exact ⟨m,by simp,hbase,hnF,hown,hblk.1,hblk.2⟩
  ·rw [upd_ne e] at hj
   obtain ⟨mj,h3,h4,h5,h6,h7,h8⟩:=h.box j cs hj
   have:=(hne j _ mj hj h3).2
   exact ⟨mj,by simp [e,h3],h4,h5,h6.keep this,h7,RepMC.keep t this cs 0 h8⟩
 ·by_cases e : j = n
  ·subst e
   rw [upd_same] at hj; cases hj
   obtain ⟨h0,rfl,h2,h3,h4⟩:=hblk
   exact ⟨m,by simp,h0,hbase,fun _ => hnF,fun h => (by cases h),hown,h2,h3,h4⟩
  ·rw [upd_ne e] at hj
   obtain ⟨mj,h3,h0,h4,h5,h5',h6,h7,h7',h8⟩:=h.arr j sz rows lv hj
   have:=(hne j _ mj hj h3).2
   exact ⟨mj,by simp [e,h3],h0,h4,h5,h5',h6.keep this,h7,h7',RepR.keep t.foot t.cell this rows 0 h8⟩
 ·by_cases e : j = n
  ·subst e
   rw [upd_same] at hj; cases hj
   obtain ⟨h0,h2,h4⟩:=hblk
   exact ⟨m,by simp,h0,hbase,hnF,hown,h2,h4⟩
  ·rw [upd_ne e] at hj
   obtain ⟨mj,h3,h0,h4,h5,h6,h7,h8⟩:=h.own j et cs hj
   have:=(hne j _ mj hj h3).2
   exact ⟨mj,by simp [e,h3],h0,h4,h5,h6.keep this,h7,RepMC.keep t this cs 0 h8⟩
 ·by_cases ej : j = n
  ·by_cases ej' : j' = n
   ·rw [ej,ej']
   ·simp [ej] at h1
    simp [ej'] at h2
    subst h1
    rw [upd_ne ej'] at hj'
    cases hb : hp j' with
    | none => exact absurd hb hj'
    | some b => exact absurd e.symm (hne j' b mj' hb h2).1
  ·by_cases ej' : j' = n
   ·simp [ej'] at h2
    simp [ej] at h1
    subst h2
    rw [upd_ne ej] at hj
    cases hb : hp j with
    | none => exact absurd hb hj
    | some b => exact absurd e (hne j b mj hb h1).1
   ·simp [ej] at h1
    simp [ej'] at h2
    rw [upd_ne ej] at hj
    rw [upd_ne ej'] at hj'
    exact h.inj j j' mj mj' hj hj' h1 h2 e
 ·have e : j ≠ n:=by omega
  rw [upd_ne e]
  simp only [e,if_false]
  exact h.dom j hj
 ·by_cases e : k = n
  ·simp [e] at hk
   subst hk
   exact hown.lt
  ·simp [e] at hk
   exact Nat.lt_of_lt_of_le (h.ml k mk hk) hsz
 ·by_cases e : j = n
  ·subst e; rw [upd_same] at hj; cases hj; exact hblk.elim
  ·rw [upd_ne e] at hj; simp only [e,if_false]; exact h.res j hj
theorem HR.keep1 (h : HR c F M hp nx w) : HR c F M (upd nx (some .res) hp) (Nat.succ nx) w:=by
 have ne : ∀ j b,upd nx (some .res) hp j = some b -> b ≠ .res -> hp j = some b:=fun j b hj hb => by
  by_cases e : j = nx
  ·subst e; rw [upd_same] at hj; cases hj; exact absurd rfl hb
  ·rwa [upd_ne e] at hj
 refine ⟨fun k cs hk => h.box k cs (ne k _ hk (by simp)),fun k sz rows lv hk => h.arr k sz rows lv (ne k _ hk (by simp)),fun k et cs hk => h.own k et cs (ne k _ hk (by simp)),fun k k' m m' hk hk' hm hm' e => ?_,fun k hk => ?_,h.fl,h.hist,h.gl,h.bel,h.ml,h.al,h.base,fun k hk => ?_,fun k es hk => h.mp k es (ne k _ hk (by simp))⟩
 ·have nn : ∀ j mj,M j = some mj -> j ≠ nx:=fun j mj hj e => by subst e; rw [(h.dom j (Nat.le_refl _)).1] at hj; cases hj
  rw [upd_ne (nn k m hm)] at hk
  rw [upd_ne (nn k' m' hm')] at hk'
  exact h.inj k k' m m' hk hk' hm hm' e
 ·have hk : nx + 1 <= k:=hk
  have e : k ≠ nx:=by omega
  rw [upd_ne e]
  exact h.dom k (by omega)
 ·by_cases e : k = nx
  ·subst e; exact (h.dom k (Nat.le_refl _)).1
  ·rw [upd_ne e] at hk; exact h.res k hk
def drop1 (old : Option Nat) (hp : Nat -> Option Blk) : Nat -> Option Blk :=
 match old with
 | none => hp
 | some k => upd k none hp
theorem drop1_some {old : Option Nat} {j : Nat} {b : Blk} (h : drop1 old hp j = some b) : hp j = some b∧old ≠ some j:=by
 cases old with
 | none => exact ⟨h,by simp⟩
 | some k =>
  by_cases e : j = k
  ·subst e; simp [drop1,upd_same] at h
  ·simp [drop1,upd_ne e] at h
   exact ⟨h,fun h => e (by cases h; rfl)⟩
theorem HR.growB (h : HR c F M hp nx w) (old : Option Nat) {m : MB} {blk : Blk}
  (hoth : ∀ b,b < w.heap.size -> (∀ k mk,old = some k -> M k = some mk -> b ≠ mk.b) -> w'.heap[b]? = w.heap[b]?) (hsz : w.heap.size <= w'.heap.size)
  (hold : ∀ k,old = some k -> hp k ≠ none∧∀ mk,M k = some mk -> ¬ F mk.b)
  (hm : w.heap.size <= m.b ∨ ∃ k mk,old = some k∧M k = some mk∧m.b = mk.b)
  (hB : Below c.w0.heap.size c.w0 w') (hown : (∀ es,blk ≠ .mp es) -> Own w' m)
  (hblk : Tr F M w F (fun j => if j = nx then some m else M j) w' -> BlkOk w' F (fun j => if j = nx then some m else M j) m blk) :
  HR c F (fun j => if j = nx then some m else M j) (upd nx (some blk) (drop1 old hp)) (nx + 1) w'∧Tr F M w F (fun j => if j = nx then some m else M j) w':=by
 have hOF : ∀ k mk,old = some k -> M k = some mk -> ¬ F mk.b:=fun k mk hk hmk => (hold k hk).2 mk hmk
 have t : Tr F M w F (fun j => if j = nx then some m else M j) w':=by
  refine ⟨fun _ h => h,fun b hb => hoth b (h.fl b hb) fun k mk hk hmk e => hOF k mk hk hmk (e ▸ hb),fun k mk hk => ?_,hsz,fun _ h => .inl h,fun k mk hk => ?_,fun b hb hn => hoth b hb fun k mk _ hmk e => hn k mk hmk e.symm⟩
  rotate_left
  ·by_cases e : k = nx
   ·simp [e] at hk
    subst hk
    rcases hm with h1 | ⟨k,mk,h1,h2,h3⟩
    ·exact .inr h1
    ·exact .inl ⟨k,mk,h2,h3.symm⟩
   ·simp [e] at hk
    exact .inl ⟨k,mk,hk,rfl⟩
  have : k ≠ nx:=fun e => by have:=(h.dom k (by omega)).1; rw [hk] at this; cases this
  simp [this,hk]
 have hblk:=hblk t
 have hnF : ¬ F m.b:=fun hf => by
  rcases hm with h1 | ⟨k,mk,h1,h2,h3⟩
  ·have:=h.fl _ hf; omega
  ·exact hOF k mk h1 h2 (h3 ▸ hf)
 have hlt : m.b < w'.heap.size:=by
  cases hbk : blk with
  | mp es => rw [hbk] at hblk; exact MapIs.lt hblk
  | _ => exact (hown (by simp [hbk])).lt
 have hbase : c.w0.heap.size <= m.b:=by
  rcases hm with h1 | ⟨k,mk,h1,h2,h3⟩
  ·exact Nat.le_trans h.bel.size h1
  ·rw [h3]; exact (h.owned (hold k h1).1 h2).1
 have hne : ∀ j b mj,drop1 old hp j = some b -> M j = some mj -> mj.b ≠ m.b∧w'.heap[mj.b]? = w.heap[mj.b]?:=fun j b mj hj hmj => by
  obtain ⟨h1,h2⟩:=drop1_some hj
  have ho:=(h.owned (by rw [h1]; simp) hmj).2
  have hk : ∀ k mk,old = some k -> M k = some mk -> mj.b ≠ mk.b:=fun k mk hk hmk e => by
   have:=h.inj j k mj mk (by rw [h1]; simp) (hold k hk).1 hmj hmk e
   subst this; exact h2 hk
  refine ⟨fun e => ?_,hoth mj.b ho hk⟩
  rcases hm with h3 | ⟨k,mk,h3,h4,h5⟩
  ·omega
  ·exact hk k mk h3 h4 (e.trans h5)
 have hnx : ∀ j b,drop1 old hp j = some b -> j ≠ nx:=fun j b hj e => by
  have:=(h.dom j (by omega)).2
  rw [(drop1_some hj).1] at this; cases this
 refine ⟨⟨fun j cs hj => ?_,fun j sz rows lv hj => ?_,fun j et cs hj => ?_,fun j j' mj mj' hj hj' h1 h2 e => ?_,fun j hj => ?_,fun b hb => Nat.lt_of_lt_of_le (h.fl b hb) hsz,h.hist,fun g av hg => RepM.mono t.foot t.cell (fun _ _ h => h) _ _ (h.gl g av hg),hB,fun k mk hk => ?_,h.al.tr t,h.base.tr t,fun j hj => (by
  by_cases e : j = nx
  ·subst e; rw [upd_same] at hj; cases hj; exact hblk.elim
  ·rw [upd_ne e] at hj; simp only [e,if_false]; exact h.res j (drop1_some hj).1),fun j es hj => (by
  by_cases e : j = nx
  ·subst e; rw [upd_same] at hj; cases hj; exact ⟨m,by simp,hbase,hnF,hblk⟩
  ·rw [upd_ne e] at hj
   obtain ⟨h1,h2⟩:=drop1_some hj
   obtain ⟨mj,h3,h4,h5,h6⟩:=h.mp j es h1
   exact ⟨mj,by simp [e,h3],h4,h5,h6.keep (hne j _ mj hj h3).2⟩)⟩,t⟩
 rotate_right
 ·by_cases e : k = nx
  ·simp [e] at hk
   subst hk
   exact hlt
  ·simp [e] at hk
   exact Nat.lt_of_lt_of_le (h.ml k mk hk) hsz
 ·by_cases e : j = nx
  ·subst e
   rw [upd_same] at hj; cases hj
   exact ⟨m,by simp,hbase,hnF,hown (by simp),hblk.1,hblk.2⟩
  ·rw [upd_ne e] at hj
   obtain ⟨h1,h2⟩:=drop1_some hj
   obtain ⟨mj,h3,h4,h5,h6,h7,h8⟩:=h.box j cs h1
   have:=(hne j _ mj hj h3).2
   exact ⟨mj,by simp [e,h3],h4,h5,h6.keep this,h7,RepMC.keep t this cs 0 h8⟩
 ·by_cases e : j = nx
  ·subst e
   rw [upd_same] at hj; cases hj
   obtain ⟨h0,rfl,h2,h3,h4⟩:=hblk
   exact ⟨m,by simp,h0,hbase,fun _ => hnF,fun h => (by cases h),hown (by simp),h2,h3,h4⟩
  ·rw [upd_ne e] at hj
   obtain ⟨h1,h2⟩:=drop1_some hj
   obtain ⟨mj,h3,h0,h4,h5,h5',h6,h7,h7',h8⟩:=h.arr j sz rows lv h1
   have:=(hne j _ mj hj h3).2
   exact ⟨mj,by simp [e,h3],h0,h4,h5,h5',h6.keep this,h7,h7',RepR.keep t.foot t.cell this rows 0 h8⟩
 ·by_cases e : j = nx
  ·subst e
   rw [upd_same] at hj; cases hj
   obtain ⟨h0,h2,h4⟩:=hblk
   exact ⟨m,by simp,h0,hbase,hnF,hown (by simp),h2,h4⟩
  ·rw [upd_ne e] at hj
   obtain ⟨h1,h2⟩:=drop1_some hj
   obtain ⟨mj,h3,h0,h4,h5,h6,h7,h8⟩:=h.own j et cs h1
   have:=(hne j _ mj hj h3).2
   exact ⟨mj,by simp [e,h3],h0,h4,h5,h6.keep this,h7,RepMC.keep t this cs 0 h8⟩
 ·by_cases ej : j = nx
  ·by_cases ej' : j' = nx
   ·rw [ej,ej']
   ·simp [ej] at h1
    simp [ej'] at h2
    subst h1
    rw [upd_ne ej'] at hj'
    cases hb : drop1 old hp j' with
    | none => exact absurd hb hj'
    | some b => exact absurd e.symm (hne j' b mj' hb h2).1
  ·by_cases ej' : j' = nx
   ·simp [ej'] at h2
    simp [ej] at h1
    subst h2
    rw [upd_ne ej] at hj
    cases hb : drop1 old hp j with
    | none => exact absurd hb hj
    | some b => exact absurd e (hne j b mj hb h1).1
   ·simp [ej] at h1
    simp [ej'] at h2
    rw [upd_ne ej] at hj
    rw [upd_ne ej'] at hj'
    cases hb : drop1 old hp j with
    | none => exact absurd hb hj
    | some b =>
     cases hb' : drop1 old hp j' with
     | none => exact absurd hb' hj'
     | some b' => exact h.inj j j' mj mj' (by rw [(drop1_some hb).1]; simp) (by rw [(drop1_some hb').1]; simp) h1 h2 e
 ·have:=h.dom j (by omega)
  have e : j ≠ nx:=by omega
  refine ⟨by simp [e,this.1],?_⟩
  rw [upd_ne e]
  cases hb : drop1 old hp j with
  | none => rfl
  | some b => rw [(drop1_some hb).1] at this; cases this.2
theorem HR.grow (h : HR c F M hp nx w) (old : Option Nat) {m : MB} {blk : Blk}
  (hoth : ∀ b,b < w.heap.size -> (∀ k mk,old = some k -> M k = some mk -> b ≠ mk.b) -> w'.heap[b]? = w.heap[b]?) (hsz : w.heap.size <= w'.heap.size)
  (hold : ∀ k,old = some k -> hp k ≠ none∧∀ mk,M k = some mk -> ¬ F mk.b)
  (hm : w.heap.size <= m.b ∨ ∃ k mk,old = some k∧M k = some mk∧m.b = mk.b)
  (hB : Below c.w0.heap.size c.w0 w') (hown : Own w' m)
  (hblk : Tr F M w F (fun j => if j = nx then some m else M j) w' -> BlkOk w' F (fun j => if j = nx then some m else M j) m blk) :
  HR c F (fun j => if j = nx then some m else M j) (upd nx (some blk) (drop1 old hp)) (nx + 1) w'∧Tr F M w F (fun j => if j = nx then some m else M j) w' :=
 h.growB old hoth hsz hold hm hB (fun _ => hown) hblk
def frzF (ks : List Nat) (hp : Nat -> Option Blk) (M : Nat -> Option MB) (F : Foot) : Foot:=fun b =>
 F b ∨ ∃ k m sz rows lv,k ∈ ks∧hp k = some (.arr sz rows lv)∧M k = some m∧m.b = b
theorem memN_iff (j : Nat) : ∀ (ks : List Nat),memN j ks = true ↔ j ∈ ks
 | [] => by simp [memN]
 | k :: ks => by
   simp only [memN,Bool.or_eq_true,memN_iff j ks,List.mem_cons]
   constructor
   ·rintro (h | h)
    ·exact .inl (Nat.eq_of_beq_eq_true h)
    ·exact .inr h
   ·rintro (h | h)
    ·exact .inl (by rw [h]; simp)
    ·exact .inr h
theorem frz_at (ks : List Nat) (hp : Nat -> Option Blk) (j : Nat) : frz ks hp j = if j ∈ ks then frzB (hp j) else hp j:=by
 cases ks with
 | nil => simp [frz]
 | cons k ks =>
  simp only [frz]
  by_cases h : j ∈ k :: ks
  ·rw [(memN_iff j _).2 h]; simp [h]
  ·have : memN j (k :: ks) = false:=by
    cases hm : memN j (k :: ks)
    ·rfl
    ·exact absurd ((memN_iff j _).1 hm) h
   rw [this]; simp [h]
theorem frzB_none {b : Option Blk} (h : frzB b ≠ none) : b ≠ none:=by
 cases b with
 | none => exact h
 | some b => simp
theorem HR.freeze (h : HR c F M hp nx w) (ks : List Nat) : HR c (frzF ks hp M F) M (frz ks hp) nx w∧Tr F M w (frzF ks hp M F) M w:=by
 have t : Tr F M w (frzF ks hp M F) M w:=⟨fun b hb => .inl hb,fun _ _ => rfl,fun _ _ h => h,Nat.le_refl _,fun b hb => by
  rcases hb with hb | ⟨k,m,sz,rows,lv,_,_,h1,h2⟩
  ·exact .inl hb
  ·exact .inr (.inl ⟨k,m,h1,h2⟩),fun k m h => .inl ⟨k,m,h,rfl⟩,fun _ _ _ => rfl⟩
 have un : ∀ j,frz ks hp j ≠ none -> hp j ≠ none:=fun j hj => by
  rw [frz_at] at hj
  split at hj
  ·exact frzB_none hj
  ·exact hj
 refine ⟨⟨fun j cs hj => ?_,fun j sz rows lv hj => ?_,fun j et cs hj => ?_,fun j j' mj mj' hj hj' h1 h2 e => h.inj j j' mj mj' (un j hj) (un j' hj') h1 h2 e,fun j hj => ⟨(h.dom j hj).1,?_⟩,fun b hb => ?_,fun b hb => ?_,fun g av hg => RepM.mono t.foot t.cell (fun _ _ h => h) _ _ (h.gl g av hg),h.bel,h.ml,h.al.tr t,h.base.tr t,fun j hj => (by
  rw [frz_at] at hj
  split at hj
  ·cases hb : hp j with
   | none => rw [hb] at hj; cases hj
   | some b => rw [hb] at hj; cases b <;> first | (cases hj; done) | exact h.res j hb
  ·exact h.res j hj),fun j es hj => (by
  have hj' : hp j = some (.mp es):=by
   rw [frz_at] at hj
   split at hj
   ·unfold frzB at hj; split at hj <;> simp_all
   ·exact hj
  obtain ⟨m,h1,h2,h3,h4⟩:=h.mp j es hj'
  refine ⟨m,h1,h2,fun hf => ?_,h4.keep rfl⟩
  rcases hf with hf | ⟨k,mk,sz,rows,lv,_,hk,hmk,e⟩
  ·exact h3 hf
  ·have:=h.inj k j mk m (by rw [hk]; simp) (by rw [hj']; simp) hmk h1 e
   subst this
   rw [hk] at hj'; cases hj')⟩,t⟩
 ·have hj' : hp j = some (.box cs):=by
   rw [frz_at] at hj
   split at hj
   ·unfold frzB at hj; split at hj <;> simp_all
   ·exact hj
  obtain ⟨m,h1,h2,h3,h4,h5,h6⟩:=h.box j cs hj'
  refine ⟨m,h1,h2,fun hf => ?_,h4,h5,RepMC.keep t rfl cs 0 h6⟩
  rcases hf with hf | ⟨k,mk,sz,rows,lv,_,hk,hmk,e⟩
  ·exact h3 hf
  ·have:=h.inj k j mk m (by rw [hk]; simp) (by rw [hj']; simp) hmk h1 e
   subst this
   rw [hk] at hj'; cases hj'
 ·by_cases hm : j ∈ ks
  ·rw [frz_at,if_pos hm] at hj
   cases hb : hp j with
   | none => rw [hb] at hj; simp [frzB] at hj
   | some b =>
    cases b with
    | box cs => rw [hb] at hj; simp [frzB] at hj
    | own et cs => rw [hb] at hj; simp [frzB] at hj
    | res => rw [hb] at hj; simp [frzB] at hj
    | mp es => rw [hb] at hj; simp [frzB] at hj
    | arr sz' rows' lv' =>
       rw [hb] at hj; simp [frzB] at hj
       obtain ⟨rfl,rfl,rfl⟩:=hj
       obtain ⟨m,h1,h0,h2,h3,h4,h5,h6,h7,h8⟩:=h.arr j _ rows' lv' hb
       exact ⟨m,h1,h0,h2,fun h => (by cases h),fun _ => .inr ⟨j,m,_,rows',lv',hm,hb,h1,rfl⟩,h5,h6,h7,RepR.keep t.foot t.cell rfl rows' 0 h8⟩
  ·rw [frz_at,if_neg hm] at hj
   obtain ⟨m,h1,h0,h2,h3,h4,h5,h6,h7,h8⟩:=h.arr j sz rows lv hj
   refine ⟨m,h1,h0,h2,fun hlv hf => ?_,fun hlv => .inl (h4 hlv),h5,h6,h7,RepR.keep t.foot t.cell rfl rows 0 h8⟩
   rcases hf with hf | ⟨k,mk,sz',rows',lv',hk',hk,hmk,e⟩
   ·exact h3 hlv hf
   ·have:=h.inj k j mk m (by rw [hk]; simp) (by rw [hj]; simp) hmk h1 e
    subst this
    exact hm hk'
 ·have hj' : hp j = some (.own et cs):=by
   rw [frz_at] at hj
   split at hj
   ·unfold frzB at hj; split at hj <;> simp_all
   ·exact hj
  obtain ⟨m,h1,h0,h2,h3,h4,h5,h6⟩:=h.own j et cs hj'
  refine ⟨m,h1,h0,h2,fun hf => ?_,h4,h5,RepMC.keep t rfl cs 0 h6⟩
  rcases hf with hf | ⟨k,mk,sz,rows,lv,_,hk,hmk,e⟩
  ·exact h3 hf
  ·have:=h.inj k j mk m (by rw [hk]; simp) (by rw [hj']; simp) hmk h1 e
   subst this
   rw [hk] at hj'; cases hj'
 ·rw [frz_at,(h.dom j hj).2]; simp [frzB]
 ·rcases hb with hb | ⟨k,mk,sz',rows',lv',hk',hk,hmk,e⟩
  ·exact h.fl b hb
  ·rw [<- e]; exact (h.owned (by rw [hk]; simp) hmk).2
 ·rcases hb with hb | ⟨k,mk,sz',rows',lv',hk',hk,hmk,e⟩
  ·exact h.hist b hb
  ·right; rw [<- e]; exact (h.owned (by rw [hk]; simp) hmk).1
theorem RepR.sub {b sz : Nat} : ∀ (l : List (List AV)) (o n k : Nat),RepR w F b sz l o -> RepR w F b sz ((l.drop n).take k) (o + n * sz)
 | [],o,n,k,_ => by simp [RepR]
 | r :: rs,o,0,0,_ => by simp [RepR]
 | r :: rs,o,0,k + 1,h => by
   unfold RepR at h
   simp only [List.drop_zero,List.take_succ_cons,Nat.zero_mul,Nat.add_zero]
   unfold RepR
   have:=RepR.sub rs (o + sz) 0 k h.2.2
   simp only [List.drop_zero,Nat.zero_mul,Nat.add_zero] at this
   exact ⟨h.1,h.2.1,this⟩
 | r :: rs,o,n + 1,k,h => by
   unfold RepR at h
   have:=RepR.sub rs (o + sz) n k h.2.2
   rw [List.drop_succ_cons,show o + (n + 1) * sz = o + sz + n * sz by rw [Nat.add_mul]; omega]
   exact this
theorem toD_sound (h : HR c F M hp nx w) {av : AV} {v : Value} (hv : RepM w F M av v) {K : AV -> Prop} (hK : toD hp av K) :
  ∃ d,RepD w (frzF (keys av) hp M F) d v∧one d = true∧K d:=by
 cases av with
 | int k n => exact ⟨.int k n,by unfold RepM at hv; unfold RepD; exact hv,rfl,hK⟩
 | bool b => exact ⟨.bool b,by unfold RepM at hv; unfold RepD; exact hv,rfl,hK⟩
 | str b => exact ⟨.str b,by unfold RepM at hv; unfold RepD; exact hv,rfl,hK⟩
 | sl rows => exact ⟨_,RepD.mono (fun b hb => .inl hb) (fun _ _ => rfl) _ _ hv,rfl,hK⟩
 | nil =>
  refine ⟨.sl [],?_,rfl,hK⟩
  unfold RepM at hv
  unfold RepD
  exact ⟨none,0,by simpa using hv,Nat.le_refl _,by simp,.inl rfl⟩
 | ms k off n =>
  simp only [toD] at hK
  cases hb : hp k with
  | none => rw [hb] at hK; exact hK.elim
  | some b =>
   cases b with
   | res => first | exact hK.elim | (rw [hb] at hK; exact hK.elim) | exact h.elim | (rw [hb] at h; exact h.elim) | (rw [hb] at hK2; exact hK2.elim) | (rw [hb] at hK; simp only at hK; exact hK.elim) | exact Sel.no | exact Gives.none | exact Give2.none | exact toDB_ok hp (.ms k off len) | (have:=Sel.toD (hp:=hp) (.ms k off len); exact this) | exact .inl rfl | (cases hK; done) | (cases h; done)
   | mp _ => first | exact hK.elim | (rw [hb] at hK; exact hK.elim) | exact h.elim | (rw [hb] at h; exact h.elim) | (rw [hb] at hK2; exact hK2.elim) | (rw [hb] at hK; simp only at hK; exact hK.elim) | exact Sel.no | exact Gives.none | exact Give2.none | exact toDB_ok hp (.ms k off len) | (have:=Sel.toD (hp:=hp) (.ms k off len); exact this) | exact .inl rfl | (cases hK; done) | (cases h; done)
   | box cs => rw [hb] at hK; exact hK.elim
   | own et cs => rw [hb] at hK; exact hK.elim
   | arr sz rows lv =>
    rw [hb] at hK
    simp only at hK
    obtain ⟨hl,hK⟩:=hK
    refine ⟨_,?_,rfl,hK⟩
    obtain ⟨m,h1,h0,h2,h3,h4,h5,h6,h7,h8⟩:=h.arr k sz rows lv hb
    unfold RepM at hv
    obtain ⟨m',hm',hv⟩:=hv
    rw [h1] at hm'; cases hm'
    have hlen : ((rows.drop off).take n).length = n:=by simp; omega
    have hF' : frzF (keys (.ms k off n)) hp M F m.b:=.inr ⟨k,m,sz,rows,lv,by simp [keys],hb,h1,rfl⟩
    unfold RepD
    rw [hlen]
    rcases hv with ⟨hv,hc⟩ | ⟨rfl,_,p,cp,hv,hcp⟩
    ·refine ⟨_,_,hv,by omega,by omega,.inr ⟨m.b,off * m.sz,m.sz,rfl,hF',?_⟩⟩
     have:=RepR.sub rows 0 off n h8
     rw [Nat.zero_add] at this
     exact RepR.keep (fun b hb => .inl hb) (fun _ _ => rfl) rfl _ _ this
    ·exact ⟨p,cp,hv,Nat.zero_le _,hcp,.inl (by simp)⟩
 | _ => exact hK.elim
theorem frzF_mono {ks ks' : List Nat} (h : ∀ k ∈ ks,k ∈ ks') {b : Nat} (hb : frzF ks hp M F b) : frzF ks' hp M F b:=by
 rcases hb with hb | ⟨k,m,sz,rows,lv,h1,h2⟩
 ·exact .inl hb
 ·exact .inr ⟨k,m,sz,rows,lv,h k h1,h2⟩
theorem toDs_sound (h : HR c F M hp nx w) : ∀ (l : List AV) (vs : List Value),RepML w F M l vs -> ∀ {K : List AV -> Prop},toDs hp l K ->
  ∃ ds,RepDL w (frzF (keysL l) hp M F) ds vs∧(∀ d ∈ ds,one d = true)∧K ds
 | [],vs,hv,K,hK => ⟨[],by unfold RepML at hv; unfold RepDL; exact hv,by simp,hK⟩
 | a :: l,vs,hv,K,hK => by
   unfold RepML at hv
   obtain ⟨v,vs',rfl,h1,h2⟩:=hv
   unfold toDs at hK
   obtain ⟨d,h3,h4,hK⟩:=toD_sound h h1 hK
   obtain ⟨ds,h5,h6,hK⟩:=toDs_sound h l vs' h2 hK
   refine ⟨d :: ds,?_,?_,hK⟩
   ·unfold RepDL
    refine ⟨v,vs',rfl,RepD.mono (fun b hb => frzF_mono (fun k hk => ?_) hb) (fun _ _ => rfl) _ _ h3,RepDL.mono (fun b hb => frzF_mono (fun k hk => ?_) hb) (fun _ _ => rfl) _ _ h5⟩
    ·simp [keysL,hk]
    ·simp [keysL,hk]
   ·intro x hx
    rcases List.mem_cons.1 hx with rfl | hx
    ·exact h4
    ·exact h6 x hx
theorem toDA_sound (h : HR c F M hp nx w) {av : AV} {v : Value} (hv : RepM w F M av v) {K : AV -> Prop} (hK : toDA hp av K) :
  ∃ d,RepD w (frzF (keysA av) hp M F) d v∧K d:=by
 cases av with
 | agg cs =>
  unfold RepM at hv
  obtain ⟨vs,rfl,h2⟩:=hv
  obtain ⟨ds,h3,_,h4⟩:=toDs_sound h cs vs h2 hK
  exact ⟨.agg ds,by unfold RepD; exact ⟨vs,rfl,h3⟩,h4⟩
 | tup cs => exact hK.elim
 | _ =>
  obtain ⟨d,h1,_,h2⟩:=toD_sound h hv hK
  exact ⟨d,h1,h2⟩
theorem toDAs_sound (h : HR c F M hp nx w) : ∀ (l : List AV) (vs : List Value),RepML w F M l vs -> ∀ {K : List AV -> Prop},toDAs hp l K ->
  ∃ ds,RepDL w (frzF (keysAs l) hp M F) ds vs∧K ds
 | [],vs,hv,K,hK => ⟨[],by unfold RepML at hv; unfold RepDL; exact hv,hK⟩
 | a :: l,vs,hv,K,hK => by
   unfold RepML at hv
   obtain ⟨v,vs',rfl,h1,h2⟩:=hv
   unfold toDAs at hK
   obtain ⟨d,h3,hK⟩:=toDA_sound h h1 hK
   obtain ⟨ds,h5,hK⟩:=toDAs_sound h l vs' h2 hK
   refine ⟨d :: ds,?_,hK⟩
   unfold RepDL
   refine ⟨v,vs',rfl,RepD.mono (fun b hb => frzF_mono (fun k hk => ?_) hb) (fun _ _ => rfl) _ _ h3,RepDL.mono (fun b hb => frzF_mono (fun k hk => ?_) hb) (fun _ _ => rfl) _ _ h5⟩
   ·simp [keysAs,hk]
   ·simp [keysAs,hk]
end
end Ab
end
section
namespace Ab
open Go Go.RowKit
section
variable {c : Ctx} {ro : Option Nat} {N : Nat} {F F' : Foot} {M M' : Nat -> Option MB} {s : St} {a : Act} {w w' : World} {P : Program} {o : Oper} {K : St -> Prop} {Q : Exit -> Act -> World -> Prop}
theorem Rel.next {hp' : Nat -> Option Blk} {nx' : Nat} (h : Rel c N F M s a w) (h' : HR c F' M' hp' nx' w') (t : Tr F M w F' M' w') : Rel c N F' M' ⟨s.tm,hp',nx'⟩ a w' :=
 ⟨h',fun k hk => (h.tm k hk).tr t,h.df.tr t,h.sz⟩
theorem wp_next {hp' : Nat -> Option Blk} {nx' : Nat} {v : Value} {av : AV} (h : Rel c N F M s a w) (hd : ∀ t,o.dst = some t -> t < N) (h' : HR c F' M' hp' nx' w') (t : Tr F M w F' M' w')
  (hrun : (execOp a.eval o).run P w = .ok (.value v) w') (hv : RepM w' F' M' av v) (hK : K (Ab.put o.dst av ⟨s.tm,hp',nx'⟩)) : o.wpIn (Fw ro) 0 P a w (Post c N F M w K) Q:=by
 refine ⟨fun _ _ => trivial,?_⟩
 rw [sem_run hrun (by simp)]
 exact ⟨_,F',M',(h.next h' t).put hd hv,t,hK⟩
theorem wp_skip' {hp' : Nat -> Option Blk} {nx' : Nat} (h : Rel c N F M s a w) (hd : ∀ t,o.dst = some t -> t < N) (h' : HR c F' M' hp' nx' w') (t : Tr F M w F' M' w')
  (hrun : (execOp a.eval o).run P w = .ok .skip w') (hK : K (Ab.put o.dst .undef ⟨s.tm,hp',nx'⟩)) : o.wpIn (Fw ro) 0 P a w (Post c N F M w K) Q:=by
 refine ⟨fun _ _ => trivial,?_⟩
 rw [sem_run hrun (by simp)]
 exact ⟨_,F',M',(h.next h' t).put hd (av:=.undef) (v:=undef) (by unfold RepM; trivial),t,hK⟩
theorem one_cell {av : AV} {v : Value} (h1 : one av = true) (h : RepM w F M av v) : v.oneCell' = true∧v.cells = #[v]:=by
 cases av with
 | int k n => unfold RepM at h; subst h; exact ⟨rfl,rfl⟩
 | bool b => unfold RepM at h; subst h; exact ⟨rfl,rfl⟩
 | str b => unfold RepM at h; subst h; exact ⟨rfl,rfl⟩
 | sl rows => unfold RepM RepD at h; obtain ⟨p,cp,rfl,_⟩:=h; exact ⟨rfl,rfl⟩
 | nil => unfold RepM at h; subst h; exact ⟨rfl,rfl⟩
 | bp k o => unfold RepM at h; obtain ⟨m,_,rfl⟩:=h; exact ⟨rfl,rfl⟩
 | ap k r o => unfold RepM at h; obtain ⟨m,_,rfl⟩:=h; exact ⟨rfl,rfl⟩
 | er row o => unfold RepM at h; obtain ⟨b,off,rfl,_⟩:=h; exact ⟨rfl,rfl⟩
 | ms k off n => unfold RepM at h; obtain ⟨m,_,⟨rfl,_⟩ | ⟨_,_,p,cp,rfl,_⟩⟩:=h <;> exact ⟨rfl,rfl⟩
 | fn f cap => unfold RepM at h; obtain ⟨vs,rfl,_⟩:=h; exact ⟨rfl,rfl⟩
 | yl l => unfold RepM at h; subst h; exact ⟨rfl,rfl⟩
 | mv k => unfold RepM at h; obtain ⟨m,_,rfl⟩:=h; exact ⟨rfl,rfl⟩
 | lit x =>
  unfold RepM at h; subst h
  cases v with
  | pointer p => cases p with
   | none => exact ⟨rfl,rfl⟩
   | some _ => cases h1
  | nilIface => exact ⟨rfl,rfl⟩
  | _ => cases h1
 | agg _ => cases h1
 | tup _ => cases h1
 | undef => cases h1
theorem ones_mem : ∀ {l : List AV},ones l = true -> ∀ x ∈ l,one x = true
 | [],_,x,hx => by cases hx
 | a :: l,h,x,hx => by
   simp only [ones,Bool.and_eq_true] at h
   rcases List.mem_cons.1 hx with rfl | hx
   ·exact h.1
   ·exact ones_mem h.2 x hx
theorem cells_rep {av : AV} {v : Value} (h1 : ones (cells av) = true) (h : RepM w F M av v) : RepML w F M (cells av) v.cells.toList∧∀ u ∈ v.cells.toList,u.oneCell' = true:=by
 have gen : ∀ av : AV,cells av = [av] -> ones (cells av) = true -> RepM w F M av v -> RepML w F M (cells av) v.cells.toList∧∀ u ∈ v.cells.toList,u.oneCell' = true:=by
  intro av hc h1 h
  rw [hc] at h1 ⊢
  have:=one_cell (ones_mem h1 av (by simp)) h
  rw [this.2]
  refine ⟨?_,by simpa using this.1⟩
  unfold RepML
  exact ⟨v,[],rfl,h,by unfold RepML; rfl⟩
 cases av with
 | agg cs =>
  unfold RepM at h
  obtain ⟨vs,rfl,h2⟩:=h
  refine ⟨h2,?_⟩
  have : ∀ (l : List AV) (vs : List Value),ones l = true -> RepML w F M l vs -> ∀ u ∈ vs,u.oneCell' = true:=by
   intro l
   induction l with
   | nil => intro vs _ h; unfold RepML at h; subst h; simp
   | cons x l ih =>
    intro vs ho h
    unfold RepML at h
    obtain ⟨v,vs',rfl,h3,h4⟩:=h
    simp only [ones,Bool.and_eq_true] at ho
    intro u hu
    rcases List.mem_cons.1 hu with rfl | hu
    ·exact (one_cell ho.1 h3).1
    ·exact ih vs' ho.2 h4 u hu
  exact this cs vs h1 h2
 | _ => exact gen _ rfl h1 h
theorem RepMC_new {b : Nat} : ∀ (l : List AV) (vs : List Value) (o : Nat),RepML w F M l vs -> ones l = true -> (∀ j v,vs[j]? = some v -> w.cell? ⟨b,o + j,none⟩ = some v) -> RepMC w F M b l o
 | [],_,_,_,_,_ => trivial
 | x :: l,vs,o,h,h1,hc => by
   unfold RepML at h
   obtain ⟨v,vs',rfl,h2,h3⟩:=h
   simp only [ones,Bool.and_eq_true] at h1
   unfold RepMC
   refine ⟨⟨h1.1,v,by simpa using hc 0 v rfl,h2⟩,RepMC_new l vs' (o + 1) h3 h1.2 fun j u hu => ?_⟩
   have:=hc (j + 1) u (by simpa using hu)
   rwa [show o + 1 + j = o + (j + 1) by omega]
theorem alloc_cell (cs : List Value) (e : TypeId) (j : Nat) (v : Value) (h : cs[j]? = some v) : (w.alloc (.cells ⟨cs⟩ e)).cell? ⟨w.heap.size,0 + j,none⟩ = some v:=by
 rw [World.cell?_alloc_new]; simpa using h
theorem alloc_heap (o : Obj) : ∀ b,b < w.heap.size -> (w.alloc o).heap[b]? = w.heap[b]?:=fun b hb => Below.heap_alloc w o b hb
theorem alloc_own {cs : List Value} {e : TypeId} {sz cap : Nat} (h : cs.length = cap * sz) : Own (w.alloc (.cells ⟨cs⟩ e)) ⟨w.heap.size,sz,cap,e⟩ :=
 ⟨⟨cs⟩,heap_alloc_new w _,by simpa using h⟩
theorem HR.newBox {hp : Nat -> Option Blk} {nx : Nat} (h : HR c F M hp nx w) {cs : List AV} {vs : List Value} (hv : RepML w F M cs vs) (h1 : ones cs = true) (e : TypeId) :
  ∃ M',HR c F M' (upd nx (some (.box cs)) hp) (nx + 1) (w.alloc (.cells ⟨vs⟩ e))∧Tr F M w F M' (w.alloc (.cells ⟨vs⟩ e)) ∧
   ∃ m,M' nx = some m∧m.b = w.heap.size:=by
 refine ⟨_,(h.grow none (m:=⟨w.heap.size,1,vs.length,e⟩) (blk:=.box cs) (fun b hb _ => alloc_heap _ b hb) (by simp) (fun k hk => by cases hk) (.inl (Nat.le_refl _))
  (h.bel.alloc h.bel.size _) (alloc_own (by simp)) fun t => ⟨⟨rfl,(RepML.len _ _ hv).symm⟩,?_⟩).1,?_,⟨w.heap.size,1,vs.length,e⟩,by simp,rfl⟩
 ·exact RepMC_new cs vs 0 (hv.tr t) h1 fun j v hj => alloc_cell vs e j v hj
 ·exact (h.grow none (m:=⟨w.heap.size,1,vs.length,e⟩) (blk:=.box cs) (fun b hb _ => alloc_heap _ b hb) (by simp) (fun k hk => by cases hk) (.inl (Nat.le_refl _))
   (h.bel.alloc h.bel.size _) (alloc_own (by simp)) fun t => ⟨⟨rfl,(RepML.len _ _ hv).symm⟩,RepMC_new cs vs 0 (hv.tr t) h1 fun j v hj => alloc_cell vs e j v hj⟩).2
theorem op_box {e : TypeId} {x : Operand} (ho : o.op = .box e x) (h : Rel c N F M s a w) (hd : ∀ t,o.dst = some t -> t < N) (hx : ∀ t,x = .tmp t -> t < N)
  (hK : forceL (cells (ev c.gl s x)) fun cs => match ones cs with | true => K (Ab.put o.dst (.bp s.nx 0) (Ab.alloc (.box cs) s)) | false => False) : o.wpIn (Fw ro) 0 P a w (Post c N F M w K) Q:=by
 rw [forceL_eq] at hK
 have hx':=h.ev x hx
 generalize ev c.gl s x = ax at hx' hK
 cases h1 : ones (cells ax) with
 | false => rw [h1] at hK; exact hK.elim
 | true =>
  rw [h1] at hK
  have hc:=cells_rep h1 hx'
  obtain ⟨M',g1,g2,m,g3,g4⟩:=h.toHR.newBox hc.1 h1 e
  refine wp_next h hd g1 g2 (v:=.pointer (some ⟨w.heap.size,0,none⟩)) ?_ ?_ hK
  ·simp [execOp,ho,Instr.box,newVar,newRow]
  ·unfold RepM; exact ⟨m,g3,by rw [g4]⟩
theorem op_alloc {e : TypeId} (ho : o.op = .alloc e) (hT : TOk P c.T) (h : Rel c N F M s a w) (hd : ∀ t,o.dst = some t -> t < N)
  (hK : match look c.T e with
   | some i => match ones (cells i.zv) with | true => K (Ab.put o.dst (.bp s.nx 0) (Ab.alloc (.box (cells i.zv)) s)) | false => False
   | none => False) : o.wpIn (Fw ro) 0 P a w (Post c N F M w K) Q:=by
 cases hl : look c.T e with
 | none => rw [hl] at hK; exact hK.elim
 | some i =>
  rw [hl] at hK
  obtain ⟨ti,d,z,hi,hu,hz,_,_,hzv,_⟩:=hT.parts hl
  simp only at hK
  cases h1 : ones (cells i.zv) with
  | false => rw [h1] at hK; exact hK.elim
  | true =>
   rw [h1] at hK
   rw [hzv] at h1 hK
   have hc:=cells_rep (w:=w) (F:=F) (M:=M) h1 (evOfV z)
   obtain ⟨M',g1,g2,m,g3,g4⟩:=h.toHR.newBox hc.1 h1 e
   refine wp_next h hd g1 g2 (v:=.pointer (some ⟨w.heap.size,0,none⟩)) ?_ ?_ hK
   ·simp [execOp,ho,Instr.alloc,zeroValue,typeInfo,hi,hz,newVar,newRow]
   ·unfold RepM; exact ⟨m,g3,by rw [g4]⟩
theorem rd_sound {b oo o' : Nat} {row : List AV} {t : TypeId} {i : TyI} (hT : TOk P c.T) (ht : look c.T t = some i) (hr : RepMC w F M b row oo) {K : AV -> Prop} (hK : rd i.ag i.sz row o' K) :
  ∃ av v,(loadVar t ⟨b,oo + o',none⟩).run P w = .ok v w∧RepM w F M av v∧K av:=by
 obtain ⟨ti,d,z,hi,hu,hz,hsz,_,hzv,_,hag,hnag,_⟩:=hT.parts ht
 cases ha : i.ag with
 | false =>
  rw [ha] at hK
  simp only [rd,nth_eq] at hK
  cases hv : row[o']? with
  | none => rw [hv] at hK; exact hK.elim
  | some av =>
   rw [hv] at hK
   simp only [force_eq] at hK
   obtain ⟨_,v,h1,h2⟩:=RepMC.at row oo o' av hr hv
   refine ⟨av,v,?_,h2,hK⟩
   have:=hnag ha
   cases d with
   | struct fs => exact absurd rfl (this.1 fs)
   | array n e => exact absurd rfl (this.2 n e)
   | _ => simp [loadVar,isAgg,run_underlying hu,load,Sem.run,h1]
 | true =>
  rw [ha] at hK
  simp only [rd,lenL_eq,takeL_eq,dropL_eq] at hK
  cases hle : Nat.ble (o' + i.sz) row.length with
  | false => rw [hle] at hK; exact hK.elim
  | true =>
   rw [hle] at hK
   simp only [forceL_eq] at hK
   have hle:=Nat.le_of_ble_eq_true hle
   have key : ∀ (n k : Nat),k + n <= row.length -> ∃ vs : List Value,vs.length = n∧RepML w F M ((row.drop k).take n) vs∧∀ j v,vs[j]? = some v -> w.cell? ⟨b,oo + k + j,none⟩ = some v:=by
    intro n
    induction n with
    | zero => intro k _; exact ⟨[],rfl,by simp [RepML],by simp⟩
    | succ n ih =>
     intro k hk
     obtain ⟨vs,h1,h2,h3⟩:=ih (k + 1) (by omega)
     have hlt : k < row.length:=by omega
     obtain ⟨_,v,h4,h5⟩:=RepMC.at row oo k row[k] hr (List.getElem?_eq_getElem hlt)
     refine ⟨v :: vs,by simp [h1],?_,?_⟩
     ·rw [List.drop_eq_getElem_cons hlt,List.take_succ_cons]
      unfold RepML
      exact ⟨v,vs,rfl,h5,h2⟩
     ·intro j u hu
      cases j with
      | zero => simp at hu; subst hu; simpa using h4
      | succ j =>
       have:=h3 j u (by simpa using hu)
       rwa [show oo + k + (j + 1) = oo + (k + 1) + j by omega]
   obtain ⟨vs,h1,h2,h3⟩:=key i.sz o' hle
   refine ⟨_,.agg ⟨vs⟩,?_,by unfold RepM; exact ⟨vs,rfl,h2⟩,hK⟩
   have hl:=run_loadCells_list (P:=P) (w:=w) ⟨b,oo + o',none⟩ vs (fun j v hj => by rw [Addr.add_lit]; exact h3 j v hj)
   have hs : (Go.sizeOf t).run P w = .ok i.sz w:=by simp [Go.sizeOf,typeInfo,hi,hsz]
   rw [h1] at hl
   rcases hag ha with ⟨fs,rfl⟩ | ⟨n,e,rfl⟩ <;> simp [loadVar,isAgg,run_underlying hu,hs,hl]
theorem aLoad_sound {lim : Option (Nat -> Bool)} {t : TypeId} {hp : Nat -> Option Blk} {nx : Nat} {tm : Nat -> AV} (hT : TOk P c.T) (h : HR c F M hp nx w) {ax : AV} {v : Value} (hx' : RepM w F M ax v) {K : AV -> Prop} (hK : aLoad c.T lim t ax ⟨tm,hp,nx⟩ K) :
  ∃ ad av u,v = .pointer (some ad)∧(loadVar t ad).run P w = .ok u w∧RepM w F M av u∧K av:=by
 unfold aLoad at hK
 cases ht : look c.T t with
 | none => rw [ht] at hK; exact hK.elim
 | some i =>
  rw [ht] at hK
  have lim_of : ∀ {k : Nat} {K' : Prop},inLim lim k K' -> K':=by
   intro k K' hl
   unfold inLim at hl
   split at hl
   ·exact hl
   ·exact hl.2
  have fin : ∀ (b oo o' : Nat) (row : List AV),RepMC w F M b row oo -> v = .pointer (some ⟨b,oo + o',none⟩) -> rd i.ag i.sz row o' K -> ∃ ad av u,v = .pointer (some ad)∧(loadVar t ad).run P w = .ok u w∧RepM w F M av u∧K av:=by
   intro b oo o' row hr hv hK
   obtain ⟨av,u,h1,h2,h3⟩:=rd_sound hT ht hr hK
   exact ⟨_,av,u,hv,h1,h2,h3⟩
  cases ax with
  | bp k o' =>
   have hK:=lim_of hK
   simp only at hK
   cases hb : hp k with
   | none => rw [hb] at hK; exact hK.elim
   | some blk =>
    rw [hb] at hK
    cases blk with
    | res => first | exact hK.elim | (rw [hb] at hK; exact hK.elim) | exact h.elim | (rw [hb] at h; exact h.elim) | (rw [hb] at hK2; exact hK2.elim) | (rw [hb] at hK; simp only at hK; exact hK.elim) | exact Sel.no | exact Gives.none | exact Give2.none | exact toDB_ok hp (.ms k off len) | (have:=Sel.toD (hp:=hp) (.ms k off len); exact this) | exact .inl rfl | (cases hK; done) | (cases h; done)
    | mp _ => first | exact hK.elim | (rw [hb] at hK; exact hK.elim) | exact h.elim | (rw [hb] at h; exact h.elim) | (rw [hb] at hK2; exact hK2.elim) | (rw [hb] at hK; simp only at hK; exact hK.elim) | exact Sel.no | exact Gives.none | exact Give2.none | exact toDB_ok hp (.ms k off len) | (have:=Sel.toD (hp:=hp) (.ms k off len); exact this) | exact .inl rfl | (cases hK; done) | (cases h; done)
    | arr _ _ _ => exact hK.elim
    | box cs =>
     obtain ⟨m,h1,h2,h3,h4,h5,h6⟩:=h.box k cs hb
     unfold RepM at hx'
     obtain ⟨m',h7,h8⟩:=hx'
     rw [h1] at h7; cases h7
     exact fin m.b 0 o' cs h6 (by rw [h8,Nat.zero_add]) hK
    | own et cs =>
     obtain ⟨m,h1,h2,h3,h4,h5,h6,h6'⟩:=h.own k et cs hb
     unfold RepM at hx'
     obtain ⟨m',h7,h8⟩:=hx'
     rw [h1] at h7; cases h7
     exact fin m.b 0 o' cs h6' (by rw [h8,Nat.zero_add]) hK
  | ap k r o' =>
   have hK:=lim_of hK
   simp only at hK
   cases hb : hp k with
   | none => rw [hb] at hK; exact hK.elim
   | some blk =>
    rw [hb] at hK
    cases blk with
    | res => first | exact hK.elim | (rw [hb] at hK; exact hK.elim) | exact h.elim | (rw [hb] at h; exact h.elim) | (rw [hb] at hK2; exact hK2.elim) | (rw [hb] at hK; simp only at hK; exact hK.elim) | exact Sel.no | exact Gives.none | exact Give2.none | exact toDB_ok hp (.ms k off len) | (have:=Sel.toD (hp:=hp) (.ms k off len); exact this) | exact .inl rfl | (cases hK; done) | (cases h; done)
    | mp _ => first | exact hK.elim | (rw [hb] at hK; exact hK.elim) | exact h.elim | (rw [hb] at h; exact h.elim) | (rw [hb] at hK2; exact hK2.elim) | (rw [hb] at hK; simp only at hK; exact hK.elim) | exact Sel.no | exact Gives.none | exact Give2.none | exact toDB_ok hp (.ms k off len) | (have:=Sel.toD (hp:=hp) (.ms k off len); exact this) | exact .inl rfl | (cases hK; done) | (cases h; done)
    | box _ => exact hK.elim
    | own _ _ => exact hK.elim
    | arr sz rows lv =>
     obtain ⟨row,hrow,hK⟩:=hK
     obtain ⟨m,h1,h0,h2,h3,h4,h5,h6,h7,h8⟩:=h.arr k sz rows lv hb
     unfold RepM at hx'
     obtain ⟨m',h9,h10⟩:=hx'
     rw [h1] at h9; cases h9
     have:=(RepR.at rows 0 r row h8 hrow).2
     rw [Nat.zero_add] at this
     exact fin m.b (r * m.sz) o' row (RepMC.of_C _ _ this) h10 hK
  | er row o' =>
   unfold RepM at hx'
   obtain ⟨b,off,h1,h2,h3⟩:=hx'
   exact fin b off o' row (RepMC.of_C _ _ h3) h1 hK
  | _ => exact hK.elim
theorem op_load {lim : Option (Nat -> Bool)} {t : TypeId} {x : Operand} (ho : o.op = .load t x) (hT : TOk P c.T) (h : Rel c N F M s a w) (hd : ∀ t,o.dst = some t -> t < N) (hx : ∀ t,x = .tmp t -> t < N)
  (hK : aLoad c.T lim t (ev c.gl s x) s fun v => K (Ab.put o.dst v s)) : o.wpIn (Fw ro) 0 P a w (Post c N F M w K) Q:=by
 obtain ⟨ad,av,u,h1,h2,h3,h4⟩:=aLoad_sound hT h.toHR (h.ev x hx) hK
 refine wp_pure h hd ?_ h3 h4
 simp [execOp,ho,h1,Instr.loadAt,Instr.sureAddr,h2]
theorem splice_get {α : Type} (l m : List α) (o j : Nat) (h : o + m.length <= l.length) :
  (l.take o ++ m ++ l.drop (o + m.length))[j]? = if j < o then l[j]? else if j < o + m.length then m[j - o]? else l[j]?:=by
 have h1 : (l.take o).length = o:=by simp; omega
 rw [List.append_assoc]
 by_cases hj : j < o
 ·rw [if_pos hj,List.getElem?_append_left (by omega),List.getElem?_take]; simp [hj]
 ·rw [if_neg hj,List.getElem?_append_right (by omega),h1]
  by_cases hj2 : j < o + m.length
  ·rw [if_pos hj2,List.getElem?_append_left (by omega)]
  ·rw [if_neg hj2,List.getElem?_append_right (by omega),List.getElem?_drop]
   congr 1; omega
theorem splice_len {α : Type} (l m : List α) (o : Nat) (h : o + m.length <= l.length) : (l.take o ++ m ++ l.drop (o + m.length)).length = l.length:=by
 simp; omega
theorem RepMC_of {b : Nat} : ∀ (l : List AV) (o : Nat),(∀ j x,l[j]? = some x -> one x = true∧∃ v,w.cell? ⟨b,o + j,none⟩ = some v∧RepM w F M x v) -> RepMC w F M b l o
 | [],_,_ => trivial
 | x :: l,o,h => by
   unfold RepMC
   refine ⟨by simpa using h 0 x rfl,RepMC_of l (o + 1) fun j y hy => ?_⟩
   have:=h (j + 1) y (by simpa using hy)
   rwa [show o + 1 + j = o + (j + 1) by omega]
theorem RepC_of {b : Nat} : ∀ (l : List AV) (o : Nat),(∀ j x,l[j]? = some x -> one x = true∧∃ v,w.cell? ⟨b,o + j,none⟩ = some v∧RepD w F x v) -> RepC w F b l o
 | [],_,_ => by unfold RepC; trivial
 | x :: l,o,h => by
   unfold RepC
   refine ⟨by simpa using h 0 x rfl,RepC_of l (o + 1) fun j y hy => ?_⟩
   have:=h (j + 1) y (by simpa using hy)
   rwa [show o + 1 + j = o + (j + 1) by omega]
theorem RepC.at {b : Nat} : ∀ (l : List AV) (o j : Nat) (c : AV),RepC w F b l o -> l[j]? = some c -> one c = true∧∃ v,w.cell? ⟨b,o + j,none⟩ = some v∧RepD w F c v
 | [],_,_,_,_,h => by simp at h
 | c :: cs,o,0,d,h,e => by
   unfold RepC at h
   simp at e; subst e
   exact h.1
 | c :: cs,o,j + 1,d,h,e => by
   unfold RepC at h
   rw [show o + (j + 1) = o + 1 + j by omega]
   exact RepC.at cs (o + 1) j d h.2 (by simpa using e)
theorem RepDL.get : ∀ (l : List AV) (vs : List Value) (k : Nat) (x : AV),RepDL w F l vs -> l[k]? = some x -> ∃ v,vs[k]? = some v∧RepD w F x v
 | [],_,_,_,_,e => by simp at e
 | x :: l,vs,0,y,h,e => by
   unfold RepDL at h
   obtain ⟨v,vs',rfl,h2,h3⟩:=h
   simp at e; subst e
   exact ⟨v,rfl,h2⟩
 | x :: l,vs,k + 1,y,h,e => by
   unfold RepDL at h
   obtain ⟨v,vs',rfl,h2,h3⟩:=h
   obtain ⟨u,h4,h5⟩:=RepDL.get l vs' k y h3 (by simpa using e)
   exact ⟨u,by simpa using h4,h5⟩
theorem RepDL.len : ∀ (l : List AV) (vs : List Value),RepDL w F l vs -> vs.length = l.length
 | [],_,h => by unfold RepDL at h; rw [h]; rfl
 | c :: cs,vs,h => by
   unfold RepDL at h
   obtain ⟨v,vs',h1,h2,h3⟩:=h
   rw [h1,List.length_cons,RepDL.len cs vs' h3,List.length_cons]
theorem store_world {m : MB} (hown : Own w m) {oo : Nat} {vs : List Value} (h1 : ∀ u ∈ vs,u.oneCell' = true) (hfit : oo + vs.length <= m.cap * m.sz) :
  ∃ w',(storeCells ⟨m.b,oo,none⟩ vs).run P w = .ok () w'∧(∀ b,b ≠ m.b -> w'.heap[b]? = w.heap[b]?)∧w'.heap.size = w.heap.size∧Own w' m ∧
   (∀ B w0,Below B w0 w -> B <= m.b -> Below B w0 w') ∧
   (∀ j,w'.cell? ⟨m.b,j,none⟩ = if j < oo then w.cell? ⟨m.b,j,none⟩ else if j < oo + vs.length then vs[j - oo]? else w.cell? ⟨m.b,j,none⟩):=by
 obtain ⟨cur,hg,hsz⟩:=hown
 have hr:=run_storeCells_at P m.b oo m.e vs 0 cur w hg (by rw [hsz]; simpa using hfit) h1
 simp only [Nat.add_zero] at hr
 have hl : oo + vs.length <= cur.toList.length:=by simp [hsz]; exact hfit
 refine ⟨_,hr,fun b hb => setRow_other w m.b b _ hb,by simp,⟨_,setRow_heap w m.b cur _ m.e (0,0) hg,?_⟩,fun B w0 hB hb => ?_,fun j => ?_⟩
 ·have:=splice_len cur.toList vs oo hl
  simpa [hsz] using this
 ·refine hB.grown (row:=some m.b) ⟨rfl,rfl,rfl,by simp,fun k _ hk => setRow_other w m.b k _ (fun e => hk (by rw [e]))⟩ ?_ ?_
  ·have:=(Array.getElem?_eq_some_iff.1 hg).1; omega
  ·intro k hk; cases hk; exact hb
 ·rw [cell_of_row _ m.b j _ m.e (0,0) (setRow_heap w m.b cur _ m.e (0,0) hg),cell_of_row w m.b j cur m.e (0,0) hg]
  have:=splice_get cur.toList vs oo j hl
  simpa using this
theorem HR.weaken {hp hp' : Nat -> Option Blk} {nx : Nat} (h : HR c F M hp nx w) (hl : ∀ k,hp' k = none ∨ hp' k = hp k) : HR c F M hp' nx w:=by
 have un : ∀ j b,hp' j = some b -> hp j = some b:=fun j b hj => by
  rcases hl j with e | e
  ·rw [e] at hj; cases hj
  ·rw [<- e]; exact hj
 have ne : ∀ j,hp' j ≠ none -> hp j ≠ none:=fun j hj => by
  rcases hl j with e | e
  ·exact absurd e hj
  ·rw [<- e]; exact hj
 refine ⟨fun k cs hk => h.box k cs (un k _ hk),fun k sz rows lv hk => h.arr k sz rows lv (un k _ hk),fun k et cs hk => h.own k et cs (un k _ hk),fun k k' m m' hk hk' => h.inj k k' m m' (ne k hk) (ne k' hk'),fun k hk => ⟨(h.dom k hk).1,?_⟩,h.fl,h.hist,h.gl,h.bel,h.ml,h.al,h.base,fun k hk => h.res k (un k _ hk),fun k es hk => h.mp k es (un k _ hk)⟩
 rcases hl k with e | e
 ·exact e
 ·rw [e]; exact (h.dom k hk).2
theorem toD_keys {hp : Nat -> Option Blk} {av : AV} {K : AV -> Prop} (h : toD hp av K) : ∀ j ∈ keys av,∃ sz rows lv,hp j = some (.arr sz rows lv):=by
 cases av with
 | ms k off n =>
  simp only [toD] at h
  intro j hj
  simp [keys] at hj
  subst hj
  cases hb : hp j with
  | none => rw [hb] at h; exact h.elim
  | some b =>
   cases b with
   | res => first | exact hK.elim | (rw [hb] at hK; exact hK.elim) | exact h.elim | (rw [hb] at h; exact h.elim) | (rw [hb] at hK2; exact hK2.elim) | (rw [hb] at hK; simp only at hK; exact hK.elim) | exact Sel.no | exact Gives.none | exact Give2.none | exact toDB_ok hp (.ms k off len) | (have:=Sel.toD (hp:=hp) (.ms k off len); exact this) | exact .inl rfl | (cases hK; done) | (cases h; done)
   | mp _ => first | exact hK.elim | (rw [hb] at hK; exact hK.elim) | exact h.elim | (rw [hb] at h; exact h.elim) | (rw [hb] at hK2; exact hK2.elim) | (rw [hb] at hK; simp only at hK; exact hK.elim) | exact Sel.no | exact Gives.none | exact Give2.none | exact toDB_ok hp (.ms k off len) | (have:=Sel.toD (hp:=hp) (.ms k off len); exact this) | exact .inl rfl | (cases hK; done) | (cases h; done)
   | box _ => rw [hb] at h; exact h.elim
   | own _ _ => rw [hb] at h; exact h.elim
   | arr sz rows lv => exact ⟨sz,rows,lv,rfl⟩
 | _ => intro j hj; simp [keys] at hj
theorem toD_some {hp : Nat -> Option Blk} {av : AV} {K : AV -> Prop} (h : toD hp av K) : ∃ d,K d:=by
 cases av with
 | ms k off n =>
  simp only [toD] at h
  cases hb : hp k with
  | none => rw [hb] at h; exact h.elim
  | some b =>
   cases b with
   | res => first | exact hK.elim | (rw [hb] at hK; exact hK.elim) | exact h.elim | (rw [hb] at h; exact h.elim) | (rw [hb] at hK2; exact hK2.elim) | (rw [hb] at hK; simp only at hK; exact hK.elim) | exact Sel.no | exact Gives.none | exact Give2.none | exact toDB_ok hp (.ms k off len) | (have:=Sel.toD (hp:=hp) (.ms k off len); exact this) | exact .inl rfl | (cases hK; done) | (cases h; done)
   | mp _ => first | exact hK.elim | (rw [hb] at hK; exact hK.elim) | exact h.elim | (rw [hb] at h; exact h.elim) | (rw [hb] at hK2; exact hK2.elim) | (rw [hb] at hK; simp only at hK; exact hK.elim) | exact Sel.no | exact Gives.none | exact Give2.none | exact toDB_ok hp (.ms k off len) | (have:=Sel.toD (hp:=hp) (.ms k off len); exact this) | exact .inl rfl | (cases hK; done) | (cases h; done)
   | box _ => rw [hb] at h; exact h.elim
   | own _ _ => rw [hb] at h; exact h.elim
   | arr sz rows lv => rw [hb] at h; exact ⟨_,h.2⟩
 | int k n => exact ⟨_,h⟩
 | bool b => exact ⟨_,h⟩
 | str b => exact ⟨_,h⟩
 | sl rows => exact ⟨_,h⟩
 | nil => exact ⟨_,h⟩
 | _ => exact h.elim
theorem toDs_keys {hp : Nat -> Option Blk} : ∀ (l : List AV) {K : List AV -> Prop},toDs hp l K -> ∀ j ∈ keysL l,∃ sz rows lv,hp j = some (.arr sz rows lv)
 | [],_,_,j,hj => by simp [keysL] at hj
 | a :: l,K,h,j,hj => by
   unfold toDs at h
   simp only [keysL,List.mem_append] at hj
   rcases hj with hj | hj
   ·exact toD_keys h j hj
   ·obtain ⟨d,h⟩:=toD_some h
    exact toDs_keys l h j hj
theorem RepR_of {b sz : Nat} : ∀ (l : List (List AV)) (o : Nat),(∀ r row,l[r]? = some row -> row.length = sz∧RepC w F b row (o + r * sz)) -> RepR w F b sz l o
 | [],_,_ => by unfold RepR; trivial
 | x :: l,o,h => by
   unfold RepR
   have h0:=h 0 x rfl
   refine ⟨h0.1,by simpa using h0.2,RepR_of l (o + sz) fun r row hr => ?_⟩
   have:=h (r + 1) row (by simpa using hr)
   rw [show o + (r + 1) * sz = o + sz + r * sz by rw [Nat.add_mul]; omega] at this
   exact this
theorem row_apart {sz q r j oo n : Nat} (hj : j < sz) (hn : oo + n <= sz) (hq : q ≠ r) : q * sz + j < r * sz + oo ∨ r * sz + oo + n <= q * sz + j:=by
 rcases Nat.lt_or_gt_of_ne hq with h | h
 ·left
  have:=Nat.mul_le_mul_right sz (show q + 1 <= r by omega)
  rw [Nat.add_mul] at this; omega
 ·right
  have:=Nat.mul_le_mul_right sz (show r + 1 <= q by omega)
  rw [Nat.add_mul] at this; omega
theorem run_storeAt {t : TypeId} {ti : TypeInfo} {b oo : Nat} {v : Value} {w' : World} (hi : P.info? t = some ti) (hsz : v.cells.size = ti.size) (hr : (storeCells ⟨b,oo,none⟩ v.cells.toList).run P w = .ok () w') :
  (Instr.storeAt t (.pointer (some ⟨b,oo,none⟩)) v).run P w = .ok () w':=by
 simp [Instr.storeAt,Instr.sureAddr,storeVar,Go.sizeOf,typeInfo,hi,hsz,hr]
theorem op_store {t : TypeId} {x y : Operand} (ho : o.op = .store t x y) (hT : TOk P c.T) (h : Rel c N F M s a w) (hd : ∀ t,o.dst = some t -> t < N) (hx : ∀ t,x = .tmp t -> t < N) (hy : ∀ t,y = .tmp t -> t < N)
  (hK : force (ev c.gl s y) fun v => aStore c.T t (ev c.gl s x) v s fun s' => K (Ab.put o.dst .undef s')) : o.wpIn (Fw ro) 0 P a w (Post c N F M w K) Q:=by
 rw [force_eq] at hK
 have hx':=h.ev x hx
 have hy':=h.ev y hy
 generalize ev c.gl s x = ax at hx' hK
 generalize ev c.gl s y = ay at hy' hK
 unfold aStore at hK
 cases ht : look c.T t with
 | none => rw [ht] at hK; exact hK.elim
 | some i =>
  rw [ht] at hK
  obtain ⟨ti,d,z,hi,hu,hz,hsz,_⟩:=hT.parts ht
  simp only [lenL_eq,takeL_eq,dropL_eq,appL_eq,forceL_eq] at hK
  cases hbq : Nat.beq i.sz (cells ay).length with
  | false => rw [hbq] at hK; exact hK.elim
  | true =>
   rw [hbq] at hK
   have hbq:=Nat.eq_of_beq_eq_true hbq
   cases ax with
   | bp k oo =>
    simp only at hK
    cases hb : s.hp k with
    | none => rw [hb] at hK; exact hK.elim
    | some blk =>
     cases blk with
     | res => first | exact hK.elim | (rw [hb] at hK; exact hK.elim) | exact h.elim | (rw [hb] at h; exact h.elim) | (rw [hb] at hK2; exact hK2.elim) | (rw [hb] at hK; simp only at hK; exact hK.elim) | exact Sel.no | exact Gives.none | exact Give2.none | exact toDB_ok hp (.ms k off len) | (have:=Sel.toD (hp:=hp) (.ms k off len); exact this) | exact .inl rfl | (cases hK; done) | (cases h; done)
     | mp _ => first | exact hK.elim | (rw [hb] at hK; exact hK.elim) | exact h.elim | (rw [hb] at h; exact h.elim) | (rw [hb] at hK2; exact hK2.elim) | (rw [hb] at hK; simp only at hK; exact hK.elim) | exact Sel.no | exact Gives.none | exact Give2.none | exact toDB_ok hp (.ms k off len) | (have:=Sel.toD (hp:=hp) (.ms k off len); exact this) | exact .inl rfl | (cases hK; done) | (cases h; done)
     | arr _ _ _ => rw [hb] at hK; exact hK.elim
     | box cs =>
      rw [hb] at hK
      simp only at hK
      cases hc : and (ones (cells ay)) (Nat.ble (oo + (cells ay).length) cs.length) with
      | false => rw [hc] at hK; exact hK.elim
      | true =>
       rw [hc] at hK
       simp only at hK
       simp only [Bool.and_eq_true] at hc
       have hle:=Nat.le_of_ble_eq_true hc.2
       have hcr:=cells_rep hc.1 hy'
       obtain ⟨m,h1,h2,h3,h4,h5,h6⟩:=h.box k cs hb
       unfold RepM at hx'
       obtain ⟨m',h7,h8⟩:=hx'
       rw [h1] at h7; cases h7
       have hlen:=RepML.len _ _ hcr.1
       have h5' : cs.length <= m.cap * m.sz:=by rw [h5.1,Nat.mul_one,h5.2]; exact Nat.le_refl _
       obtain ⟨w',r1,r2,r3,r4,r5,r6⟩:=store_world (P:=P) h4 (oo:=oo) hcr.2 (by omega)
       obtain ⟨g1,g2⟩:=h.toHR.write (k:=k) (m:=m) (blk:=.box (cs.take oo ++ (cells ay ++ cs.drop (oo + (cells ay).length)))) (by rw [hb]; simp) h1 h3 r2 r3 (r5 _ _ h.bel h2) r4 (fun t => by
        have hl : (cs.take oo ++ (cells ay ++ cs.drop (oo + (cells ay).length))).length = cs.length:=by
         rw [<- List.append_assoc]; exact splice_len cs (cells ay) oo hle
        refine ⟨by rw [hl]; exact h5,RepMC_of _ 0 fun j x hj => ?_⟩
        rw [<- List.append_assoc,splice_get cs (cells ay) oo j hle] at hj
        rw [Nat.zero_add,r6 j,hlen]
        by_cases c1 : j < oo
        ·rw [if_pos c1] at hj ⊢
         obtain ⟨e1,v,e2,e3⟩:=RepMC.at cs 0 j x h6 hj
         rw [Nat.zero_add] at e2
         exact ⟨e1,v,e2,e3.tr t⟩
        ·rw [if_neg c1] at hj ⊢
         by_cases c2 : j < oo + (cells ay).length
         ·rw [if_pos c2] at hj ⊢
          obtain ⟨v,e2,e3⟩:=RepML.get _ _ _ _ hcr.1 hj
          exact ⟨ones_mem hc.1 x (List.mem_of_getElem? hj),v,e2,e3.tr t⟩
         ·rw [if_neg c2] at hj ⊢
          obtain ⟨e1,v,e2,e3⟩:=RepMC.at cs 0 j x h6 hj
          rw [Nat.zero_add] at e2
          exact ⟨e1,v,e2,e3.tr t⟩)
       refine wp_skip' h hd g1 g2 ?_ hK
       have:=run_storeAt (P:=P) (w:=w) (t:=t) (b:=m.b) (oo:=oo) (v:=a.eval y) hi (by rw [<- hsz,hbq,<- hlen]; simp) r1
       simp [execOp,ho,h8,this]
     | own et cs =>
      rw [hb] at hK
      simp only at hK
      cases hc : and (ones (cells ay)) (Nat.ble (oo + (cells ay).length) cs.length) with
      | false => rw [hc] at hK; exact hK.elim
      | true =>
       rw [hc] at hK
       simp only at hK
       simp only [Bool.and_eq_true] at hc
       have hle:=Nat.le_of_ble_eq_true hc.2
       have hcr:=cells_rep hc.1 hy'
       obtain ⟨m,h1,h0,h2,h3,h4,h5,h6⟩:=h.own k et cs hb
       unfold RepM at hx'
       obtain ⟨m',h7,h8⟩:=hx'
       rw [h1] at h7; cases h7
       have hlen:=RepML.len _ _ hcr.1
       obtain ⟨w',r1,r2,r3,r4,r5,r6⟩:=store_world (P:=P) h4 (oo:=oo) hcr.2 (by rw [h0.2]; omega)
       obtain ⟨g1,g2⟩:=h.toHR.write (k:=k) (m:=m) (blk:=.own et (cs.take oo ++ (cells ay ++ cs.drop (oo + (cells ay).length)))) (by rw [hb]; simp) h1 h3 r2 r3 (r5 _ _ h.bel h2) r4 (fun t => by
        have hl : (cs.take oo ++ (cells ay ++ cs.drop (oo + (cells ay).length))).length = cs.length:=by
         rw [<- List.append_assoc]; exact splice_len cs (cells ay) oo hle
        refine ⟨h0,by rw [hl]; exact h5,RepMC_of _ 0 fun j x hj => ?_⟩
        rw [<- List.append_assoc,splice_get cs (cells ay) oo j hle] at hj
        rw [Nat.zero_add,r6 j,hlen]
        by_cases c1 : j < oo
        ·rw [if_pos c1] at hj ⊢
         obtain ⟨e1,v,e2,e3⟩:=RepMC.at cs 0 j x h6 hj
         rw [Nat.zero_add] at e2
         exact ⟨e1,v,e2,e3.tr t⟩
        ·rw [if_neg c1] at hj ⊢
         by_cases c2 : j < oo + (cells ay).length
         ·rw [if_pos c2] at hj ⊢
          obtain ⟨v,e2,e3⟩:=RepML.get _ _ _ _ hcr.1 hj
          exact ⟨ones_mem hc.1 x (List.mem_of_getElem? hj),v,e2,e3.tr t⟩
         ·rw [if_neg c2] at hj ⊢
          obtain ⟨e1,v,e2,e3⟩:=RepMC.at cs 0 j x h6 hj
          rw [Nat.zero_add] at e2
          exact ⟨e1,v,e2,e3.tr t⟩)
       refine wp_skip' h hd g1 g2 ?_ hK
       have:=run_storeAt (P:=P) (w:=w) (t:=t) (b:=m.b) (oo:=oo) (v:=a.eval y) hi (by rw [<- hsz,hbq,<- hlen]; simp) r1
       simp [execOp,ho,h8,this]
   | ap k r oo =>
    simp only at hK
    cases hb : s.hp k with
    | none => rw [hb] at hK; exact hK.elim
    | some blk =>
     cases blk with
     | res => first | exact hK.elim | (rw [hb] at hK; exact hK.elim) | exact h.elim | (rw [hb] at h; exact h.elim) | (rw [hb] at hK2; exact hK2.elim) | (rw [hb] at hK; simp only at hK; exact hK.elim) | exact Sel.no | exact Gives.none | exact Give2.none | exact toDB_ok hp (.ms k off len) | (have:=Sel.toD (hp:=hp) (.ms k off len); exact this) | exact .inl rfl | (cases hK; done) | (cases h; done)
     | mp _ => first | exact hK.elim | (rw [hb] at hK; exact hK.elim) | exact h.elim | (rw [hb] at h; exact h.elim) | (rw [hb] at hK2; exact hK2.elim) | (rw [hb] at hK; simp only at hK; exact hK.elim) | exact Sel.no | exact Gives.none | exact Give2.none | exact toDB_ok hp (.ms k off len) | (have:=Sel.toD (hp:=hp) (.ms k off len); exact this) | exact .inl rfl | (cases hK; done) | (cases h; done)
     | box _ => rw [hb] at hK; exact hK.elim
     | own _ _ => rw [hb] at hK; exact hK.elim
     | arr sz rows lv =>
      cases lv with
      | false => rw [hb] at hK; exact hK.elim
      | true =>
       rw [hb] at hK
       simp only at hK
       obtain ⟨row,hrow,hK⟩:=hK
       obtain ⟨m,h1,h0,h2,h3,h4,h5,h6,h7,h8⟩:=h.arr k sz rows true hb
       have hones : ones (cells ay) = true:=by
        have gen : ∀ (l : List AV) {K : List AV -> Prop},toDs (upd k none s.hp) l K -> ones l = true:=by
         intro l
         induction l with
         | nil => intro _ _; rfl
         | cons x l ih =>
          intro K hh
          unfold toDs at hh
          have h1 : one x = true:=by cases x <;> first | rfl | (simp only [toD] at hh)
          obtain ⟨d,hh⟩:=toD_some hh
          simp only [ones,h1,ih hh]; rfl
        exact gen _ hK
       have hcr:=cells_rep hones hy'
       have hw:=h.toHR.weaken (hp':=upd k none s.hp) (fun j => by
        by_cases e : j = k
        ·left; rw [e,upd_same]
        ·right; rw [upd_ne e])
       have hkey : k ∉ keysL (cells ay):=fun hk => by
        obtain ⟨_,_,_,e⟩:=toDs_keys _ hK k hk
        rw [upd_same] at e; cases e
       obtain ⟨ds,d1,d2,hK⟩:=toDs_sound hw _ _ hcr.1 hK
       have hds:=RepDL.len _ _ d1
       cases hc : Nat.ble (oo + ds.length) row.length with
       | false => rw [hc] at hK; exact hK.elim
       | true =>
        rw [hc] at hK
        simp only at hK
        have hle:=Nat.le_of_ble_eq_true hc
        unfold RepM at hx'
        obtain ⟨m',h9,h10⟩:=hx'
        rw [h1] at h9; cases h9
        obtain ⟨f1,f2⟩:=h.toHR.freeze (keysL (cells ay))
        have hfk : frz (keysL (cells ay)) s.hp k = some (.arr sz rows true):=by rw [frz_at,if_neg hkey,hb]
        obtain ⟨m'',e1,_,_,e3,_,_,_,_,e8⟩:=f1.arr k sz rows true hfk
        rw [h1] at e1; cases e1
        have hrl:=RepR.at rows 0 r row e8 hrow
        rw [Nat.zero_add] at hrl
        have hrlt : r < rows.length:=by
         rcases Nat.lt_or_ge r rows.length with h | h
         ·exact h
         ·rw [List.getElem?_eq_none h] at hrow; cases hrow
        have hfit : r * m.sz + oo + (a.eval y).cells.toList.length <= m.cap * m.sz:=by
         have:=Nat.mul_le_mul_right m.sz (show r + 1 <= m.cap by omega)
         rw [Nat.add_mul] at this
         omega
        obtain ⟨w',r1,r2,r3,r4,r5,r6⟩:=store_world (P:=P) h5 (oo:=r * m.sz + oo) hcr.2 hfit
        obtain ⟨g1,g2⟩:=f1.write (k:=k) (m:=m) (w':=w') (blk:=.arr sz (rows.set r (row.take oo ++ (ds ++ row.drop (oo + ds.length)))) true) (by rw [hfk]; simp) h1 (e3 rfl) r2 r3 (r5 _ _ h.bel h2) r4 (fun t => by
         refine ⟨h0,rfl,by simpa using h6,h7,RepR_of _ 0 fun q row' hq => ?_⟩
         rw [Nat.zero_add]
         by_cases e : q = r
         ·subst e
          rw [List.getElem?_set_self hrlt] at hq
          cases hq
          have hl : (row.take oo ++ (ds ++ row.drop (oo + ds.length))).length = row.length:=by
           rw [<- List.append_assoc]; exact splice_len row ds oo hle
          refine ⟨by rw [hl]; exact hrl.1,RepC_of _ _ fun j x hj => ?_⟩
          rw [<- List.append_assoc,splice_get row ds oo j hle] at hj
          rw [r6,hds]
          by_cases c1 : j < oo
          ·rw [if_pos c1] at hj; rw [if_pos (by omega)]
           obtain ⟨a1,v,a2,a3⟩:=RepC.at row _ j x hrl.2 hj
           exact ⟨a1,v,a2,RepD.mono t.foot t.cell _ _ a3⟩
          ·rw [if_neg c1] at hj; rw [if_neg (by omega)]
           by_cases c2 : j < oo + ds.length
           ·rw [if_pos c2] at hj; rw [if_pos (by omega)]
            obtain ⟨v,a2,a3⟩:=RepDL.get _ _ _ _ d1 hj
            refine ⟨d2 x (List.mem_of_getElem? hj),v,by rw [<- a2]; congr 1; omega,RepD.mono t.foot t.cell _ _ (RepD.mono (fun b hb => ?_) (fun _ _ => rfl) _ _ a3)⟩
            rcases hb with hb | ⟨k',mk,sz',rows',lv',b1,b2,b3,b4⟩
            ·exact .inl hb
            ·refine .inr ⟨k',mk,sz',rows',lv',b1,?_,b3,b4⟩
             have : k' ≠ k:=fun e => hkey (e ▸ b1)
             rwa [upd_ne this] at b2
           ·rw [if_neg c2] at hj; rw [if_neg (by omega)]
            obtain ⟨a1,v,a2,a3⟩:=RepC.at row _ j x hrl.2 hj
            exact ⟨a1,v,a2,RepD.mono t.foot t.cell _ _ a3⟩
         ·rw [List.getElem?_set_ne (fun h => e h.symm)] at hq
          have hql:=RepR.at rows 0 q row' e8 hq
          rw [Nat.zero_add] at hql
          refine ⟨hql.1,RepC_of _ _ fun j x hj => ?_⟩
          have hjl : j < m.sz:=by
           rcases Nat.lt_or_ge j row'.length with h | h
           ·omega
           ·rw [List.getElem?_eq_none h] at hj; cases hj
          obtain ⟨a1,v,a2,a3⟩:=RepC.at row' _ j x hql.2 hj
          refine ⟨a1,v,?_,RepD.mono t.foot t.cell _ _ a3⟩
          rw [r6,hds]
          rcases row_apart (n:=ds.length) hjl (show oo + ds.length <= m.sz by omega) e with h | h
          ·rw [if_pos (by omega)]; exact a2
          ·rw [if_neg (by omega),if_neg (by omega)]; exact a2)
        refine wp_skip' h hd g1 (f2.trans g2) ?_ hK
        have:=run_storeAt (P:=P) (w:=w) (t:=t) (b:=m.b) (oo:=r * m.sz + oo) (v:=a.eval y) hi (by rw [<- hsz,hbq,<- RepML.len _ _ hcr.1]; simp) r1
        simp [execOp,ho,h10,this]
   | _ => exact hK.elim
end
end Ab
end
section
namespace Ab
open Go Go.RowKit
section
variable {c : Ctx} {ro : Option Nat} {N : Nat} {F F' : Foot} {M M' : Nat -> Option MB} {s : St} {a : Act} {w w' : World} {P : Program} {o : Oper} {K : St -> Prop} {Q : Exit -> Act -> World -> Prop}
theorem op_fieldAddr {t : TypeId} {x : Operand} {f : Nat} (ho : o.op = .fieldAddr t x f) (hT : TOk P c.T) (h : Rel c N F M s a w) (hd : ∀ t,o.dst = some t -> t < N) (hx : ∀ t,x = .tmp t -> t < N)
  (hK : aFieldAddr c.T t (ev c.gl s x) f fun v => K (Ab.put o.dst v s)) : o.wpIn (Fw ro) 0 P a w (Post c N F M w K) Q:=by
 have hx':=h.ev x hx
 generalize ev c.gl s x = ax at hx' hK
 unfold aFieldAddr at hK
 cases hl : look c.T t with
 | none => simp [hl] at hK
 | some i =>
  obtain ⟨ti,d,z,hi,hu,hz,_,_,_,_,_,_,hlay,hne,_⟩:=hT.parts hl
  simp only [hl,Option.bind_some,nth_eq] at hK
  cases hf : i.lay[f]? with
  | none => rw [hf] at hK; exact hK.elim
  | some p =>
   obtain ⟨off,sz⟩:=p
   cases sz with
   | zero => rw [hf] at hK; exact hK.elim
   | succ sz =>
    rw [hf] at hK
    simp only at hK
    obtain ⟨fs,rfl⟩:=hne (fun e => by rw [e] at hf; simp at hf)
    rw [hlay fs rfl,List.getElem?_map] at hf
    cases hfs : fs.toList[f]? with
    | none => rw [hfs] at hf; cases hf
    | some fld =>
     rw [hfs] at hf
     simp only [Option.map_some,Option.some.injEq,Prod.mk.injEq] at hf
     have hfs' : fs[f]? = some fld:=by simpa using hfs
     have hsz : ∃ ti',P.info? fld.type = some ti'∧ti'.size = sz + 1:=by
      have:=hf.2
      unfold Program.cellsOf at this
      cases hq : P.info? fld.type with
      | none => rw [hq] at this; simp at this
      | some ti' => rw [hq] at this; exact ⟨ti',rfl,by simpa using this⟩
     obtain ⟨ti',hi',hs'⟩:=hsz
     have fin : ∀ (b oo : Nat) (av : AV),a.eval x = .pointer (some ⟨b,oo,none⟩) -> RepM w F M av (.pointer (some ⟨b,oo + off,none⟩)) -> K (Ab.put o.dst av s) -> o.wpIn (Fw ro) 0 P a w (Post c N F M w K) Q:=by
      intro b oo av hv hr hK
      refine wp_pure h hd ?_ hr hK
      simp [execOp,ho,hv,Instr.fieldAt,run_underlying hu,hfs',Instr.sureAddr,fieldPlace,Go.sizeOf,typeInfo,hi',hs',hf.1,Addr.add_lit]
     cases ax with
     | bp k oo =>
      unfold RepM at hx'
      obtain ⟨m,h1,h2⟩:=hx'
      exact fin _ _ (.bp k (oo + off)) h2 (by unfold RepM; exact ⟨m,h1,rfl⟩) hK
     | ap k r oo =>
      unfold RepM at hx'
      obtain ⟨m,h1,h2⟩:=hx'
      refine fin _ _ (.ap k r (oo + off)) h2 ?_ hK
      unfold RepM
      exact ⟨m,h1,by rw [Nat.add_assoc]⟩
     | er row oo =>
      unfold RepM at hx'
      obtain ⟨b,of',h1,h2,h3⟩:=hx'
      refine fin _ _ (.er row (oo + off)) h1 ?_ hK
      unfold RepM
      exact ⟨b,of',by rw [Nat.add_assoc],h2,h3⟩
     | _ => exact hK.elim
theorem look_bind {T : List (Nat × TyI)} {t : TypeId} {e : TyI} (h : ((look T t).bind fun i => i.sl).bind (look T) = some e) : ∃ i et,look T t = some i∧i.sl = some et∧look T et = some e:=by
 cases hl : look T t with
 | none => simp [hl] at h
 | some i =>
  simp only [hl,Option.bind_some] at h
  cases hs : i.sl with
  | none => simp [hs] at h
  | some et => exact ⟨i,et,rfl,hs,by simpa [hs] using h⟩
theorem TOk.elem (hT : TOk P c.T) {t : TypeId} {e : TyI} (h : ((look c.T t).bind fun i => i.sl).bind (look c.T) = some e) :
  ∃ et ti z,P.underlying t = some (.slice et)∧P.info? et = some ti∧ti.zero = some z∧e.sz = ti.size∧e.by_ = ti.bytes∧e.zv = ofV z∧z.cells.size = e.sz:=by
 obtain ⟨i,et,h1,h2,h3⟩:=look_bind h
 obtain ⟨_,d,_,_,hu,_,_,_,_,hsl,_⟩:=hT.parts h1
 obtain ⟨ti,_,z,hi,_,hz,e1,e2,e3,_,_,_,_,_,_,_,_,_,e4⟩:=hT.parts h3
 exact ⟨et,ti,z,by rw [hu,hsl et h2],hi,hz,e1,e2,e3,by rw [e4,e1]⟩
theorem op_indexAddr {lim : Option (Nat -> Bool)} {t : TypeId} {x y : Operand} (ho : o.op = .indexAddr t x y) (hT : TOk P c.T) (h : Rel c N F M s a w) (hd : ∀ t,o.dst = some t -> t < N) (hx : ∀ t,x = .tmp t -> t < N) (hy : ∀ t,y = .tmp t -> t < N)
  (hK : aIndexAddr c.T lim t (ev c.gl s x) (ev c.gl s y) s fun v => K (Ab.put o.dst v s)) : o.wpIn (Fw ro) 0 P a w (Post c N F M w K) Q:=by
 have hx':=h.ev x hx
 have hy':=h.ev y hy
 generalize ev c.gl s x = ax at hx' hK
 generalize ev c.gl s y = ay at hy' hK
 unfold aIndexAddr at hK
 cases hl : look c.T t with
 | none => rw [hl] at hK; exact hK.elim
 | some ty =>
  rw [hl] at hK
  simp only at hK
  obtain ⟨ti,d,z,hi,hu,hz,_,_,_,hsl,_,_,_,_,harr,_⟩:=hT.parts hl
  cases ay with
  | int ik n =>
   unfold RepM at hy'
   simp only at hK
   have elem : ∀ e,ty.sl.bind (look c.T) = some e -> ∃ et te,P.underlying t = some (.slice et)∧P.info? et = some te∧e.sz = te.size:=by
    intro e he
    have : ((look c.T t).bind fun i => i.sl).bind (look c.T) = some e:=by simpa [hl] using he
    obtain ⟨et,te,_,h1,h2,_,h3,_⟩:=hT.elem this
    exact ⟨et,te,h1,h2,h3⟩
   have arr : ∀ n' sz,ty.arr = some (n',sz) -> ∃ et,P.underlying t = some (.array n' et)∧sz = P.cellsOf et:=by
    intro n' sz ha
    obtain ⟨et,h1,h2⟩:=harr n' sz ha
    exact ⟨et,by rw [hu,h1],h2⟩
   have fin : ∀ (b oo : Nat) (f : Nat -> AV),a.eval x = .pointer (some ⟨b,oo,none⟩) -> (∀ q,RepM w F M (f q) (.pointer (some ⟨b,oo + q,none⟩))) ->
     (∃ n' sz,ty.arr = some (n',Nat.succ sz)∧0 <= n∧n < (n' : Int)∧K (Ab.put o.dst (f (n.toNat * Nat.succ sz)) s)) -> o.wpIn (Fw ro) 0 P a w (Post c N F M w K) Q:=by
    rintro b oo f hv hr ⟨n',sz,ha,h0,hlt,hK⟩
    obtain ⟨et,h1,h2⟩:=arr n' _ ha
    have hsz : ∃ te,P.info? et = some te∧te.size = sz + 1:=by
     unfold Program.cellsOf at h2
     cases hq : P.info? et with
     | none => rw [hq] at h2; simp at h2
     | some te => rw [hq] at h2; exact ⟨te,rfl,by simpa using h2.symm⟩
    obtain ⟨te,h3,h4⟩:=hsz
    refine wp_pure h hd ?_ (hr _) hK
    simp [execOp,ho,hv,hy',Instr.indexAt,asIntOf,run_underlying h1,h0,hlt,Go.sizeOf,typeInfo,h3,h4,Addr.add_lit,Instr.sureAddr]
   cases ax with
   | sl rows =>
    simp only at hK
    cases he : ty.sl.bind (look c.T) with
    | none => rw [he] at hK; exact hK.elim
    | some e =>
     rw [he] at hK
     obtain ⟨h0,row,hrow,hK⟩:=hK
     rw [lenL_eq] at hK
     cases hb : Nat.beq row.length e.sz with
     | false => rw [hb] at hK; exact hK.elim
     | true =>
      rw [hb] at hK
      have hb:=Nat.eq_of_beq_eq_true hb
      obtain ⟨et,te,h1,h2,h3⟩:=elem e he
      unfold RepM RepD at hx'
      obtain ⟨p,cp,h4,h5,h6,h7⟩:=hx'
      rcases h7 with h7 | ⟨b,off,sz,h7,h8,h9⟩
      ·rw [h7] at hrow; simp at hrow
      ·have hr:=RepR.at rows off n.toNat row h9 hrow
       have hlt : n.toNat < rows.length:=by
        rcases Nat.lt_or_ge n.toNat rows.length with h | h
        ·exact h
        ·rw [List.getElem?_eq_none h] at hrow; cases hrow
       have hlt' : n < (rows.length : Int):=by omega
       refine wp_pure h hd (v:=.pointer (some ⟨b,off + n.toNat * sz,none⟩)) ?_ ?_ hK
       ·have : te.size = sz:=by rw [<- h3,<- hb,hr.1]
        simp [execOp,ho,h4,h7,hy',Instr.indexAt,asIntOf,run_underlying h1,h0,hlt',Go.sizeOf,typeInfo,h2,this,Addr.add_lit]
       ·unfold RepM; exact ⟨b,off + n.toNat * sz,rfl,h8,hr.2⟩
   | ms k off n' =>
    simp only at hK
    cases he : ty.sl.bind (look c.T) with
    | none => rw [he] at hK; exact hK.elim
    | some e =>
     rw [he] at hK
     have hK:=inLim_out hK
     cases hb : s.hp k with
     | none => rw [hb] at hK; exact hK.elim
     | some blk =>
      cases blk with
      | res => first | exact hK.elim | (rw [hb] at hK; exact hK.elim) | exact h.elim | (rw [hb] at h; exact h.elim) | (rw [hb] at hK2; exact hK2.elim) | (rw [hb] at hK; simp only at hK; exact hK.elim) | exact Sel.no | exact Gives.none | exact Give2.none | exact toDB_ok hp (.ms k off len) | (have:=Sel.toD (hp:=hp) (.ms k off len); exact this) | exact .inl rfl | (cases hK; done) | (cases h; done)
      | mp _ => first | exact hK.elim | (rw [hb] at hK; exact hK.elim) | exact h.elim | (rw [hb] at h; exact h.elim) | (rw [hb] at hK2; exact hK2.elim) | (rw [hb] at hK; simp only at hK; exact hK.elim) | exact Sel.no | exact Gives.none | exact Give2.none | exact toDB_ok hp (.ms k off len) | (have:=Sel.toD (hp:=hp) (.ms k off len); exact this) | exact .inl rfl | (cases hK; done) | (cases h; done)
      | box cs =>
       rw [hb] at hK
       simp only at hK
       cases hq : Nat.beq 1 e.sz with
       | false => rw [hq] at hK; exact hK.elim
       | true =>
        rw [hq] at hK
        obtain ⟨h0,hlt,hK⟩:=hK
        have hq:=Nat.eq_of_beq_eq_true hq
        obtain ⟨et,te,h1,h2,h3⟩:=elem e he
        obtain ⟨m,g1,_,_,_,g2,_⟩:=h.box k cs hb
        unfold RepM at hx'
        obtain ⟨m',h4,h5⟩:=hx'
        rw [g1] at h4; cases h4
        rcases h5 with ⟨h5,_⟩ | ⟨h5,_⟩
        ·refine wp_pure h hd (v:=.pointer (some ⟨m.b,off * m.sz + n.toNat * m.sz,none⟩)) ?_ ?_ hK
         ·have : te.size = m.sz:=by rw [<- h3,<- hq,<- g2.1]
          simp [execOp,ho,h5,hy',Instr.indexAt,asIntOf,run_underlying h1,h0,hlt,Go.sizeOf,typeInfo,h2,this,Addr.add_lit]
         ·unfold RepM; exact ⟨m,g1,by rw [g2.1,Nat.mul_one,Nat.mul_one]⟩
        ·omega
      | own et' cs =>
       rw [hb] at hK
       simp only at hK
       cases hq : Nat.beq 1 e.sz with
       | false => rw [hq] at hK; exact hK.elim
       | true =>
        rw [hq] at hK
        obtain ⟨h0,hlt,hK⟩:=hK
        have hq:=Nat.eq_of_beq_eq_true hq
        obtain ⟨et,te,h1,h2,h3⟩:=elem e he
        obtain ⟨m,g1,g2,_⟩:=h.own k et' cs hb
        unfold RepM at hx'
        obtain ⟨m',h4,h5⟩:=hx'
        rw [g1] at h4; cases h4
        rcases h5 with ⟨h5,_⟩ | ⟨h5,_⟩
        ·refine wp_pure h hd (v:=.pointer (some ⟨m.b,off * m.sz + n.toNat * m.sz,none⟩)) ?_ ?_ hK
         ·have : te.size = m.sz:=by rw [<- h3,<- hq,<- g2.2]
          simp [execOp,ho,h5,hy',Instr.indexAt,asIntOf,run_underlying h1,h0,hlt,Go.sizeOf,typeInfo,h2,this,Addr.add_lit]
         ·unfold RepM; exact ⟨m,g1,by rw [g2.2,Nat.mul_one,Nat.mul_one]⟩
        ·omega
      | arr sz rows lv =>
       rw [hb] at hK
       simp only at hK
       cases hq : Nat.beq sz.2 e.sz with
       | false => rw [hq] at hK; exact hK.elim
       | true =>
        rw [hq] at hK
        obtain ⟨h0,hlt,hK⟩:=hK
        have hq:=Nat.eq_of_beq_eq_true hq
        obtain ⟨et,te,h1,h2,h3⟩:=elem e he
        obtain ⟨m,g1,g2,_⟩:=h.arr k sz rows lv hb
        unfold RepM at hx'
        obtain ⟨m',h4,h5⟩:=hx'
        rw [g1] at h4; cases h4
        rcases h5 with ⟨h5,_⟩ | ⟨h5,_⟩
        ·refine wp_pure h hd (v:=.pointer (some ⟨m.b,off * m.sz + n.toNat * m.sz,none⟩)) ?_ ?_ hK
         ·have : te.size = m.sz:=by rw [<- h3,<- hq,<- g2]
          simp [execOp,ho,h5,hy',Instr.indexAt,asIntOf,run_underlying h1,h0,hlt,Go.sizeOf,typeInfo,h2,this,Addr.add_lit]
         ·unfold RepM; exact ⟨m,g1,by rw [Nat.add_mul]; rfl⟩
        ·omega
   | bp k oo =>
    unfold RepM at hx'
    obtain ⟨m,h3,h4⟩:=hx'
    exact fin _ _ (fun q => .bp k (oo + q)) h4 (fun q => by unfold RepM; exact ⟨m,h3,rfl⟩) (by
     simp only at hK
     split at hK
     ·rename_i n' sz ha
      exact ⟨n',sz,ha,hK⟩
     ·exact hK.elim)
   | ap k r oo =>
    unfold RepM at hx'
    obtain ⟨m,h3,h4⟩:=hx'
    exact fin _ _ (fun q => .ap k r (oo + q)) h4 (fun q => by unfold RepM; exact ⟨m,h3,by rw [Nat.add_assoc]⟩) (by
     simp only at hK
     split at hK
     ·rename_i n' sz ha
      exact ⟨n',sz,ha,hK⟩
     ·exact hK.elim)
   | er row oo =>
    unfold RepM at hx'
    obtain ⟨b,off,h3,h4,h5⟩:=hx'
    exact fin _ _ (fun q => .er row (oo + q)) h3 (fun q => by unfold RepM; exact ⟨b,off,by rw [Nat.add_assoc],h4,h5⟩) (by
     simp only at hK
     split at hK
     ·rename_i n' sz ha
      exact ⟨n',sz,ha,hK⟩
     ·exact hK.elim)
   | _ => exact hK.elim
  | _ => exact hK.elim
end
end Ab
end
