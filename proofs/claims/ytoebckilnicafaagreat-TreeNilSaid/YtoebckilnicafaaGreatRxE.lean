/-
A second reading of a program's text: what each operation does.
-/
import Derived.Test.YtoebckilnicafaaGreatRxD
import Derived.MapKept
import Derived.Great.BuildSlice
import Derived.Laws.BytesString
import Derived.Lib.ConvBytes
import Derived.Laws.MakeOwn
set_option linter.unusedVariables false
set_option linter.unusedSimpArgs false
namespace Go.Rx
open Go.RowKit
/-- A frame: what its temporaries hold, and how many there are. -/
structure Fr where
  tm : T Value
  n : Nat
def Fr.at (fr : Fr) (t : Nat) : Value := (fr.tm.get t).getD undef
def Fr.op (fr : Fr) : Operand → Value
  | .tmp t => fr.at t
  | .const v => v
  | .global _ => undef
  | .func f => .func (.func f) #[] #[]
def okOp : Operand → Bool
  | .tmp _ => true
  | .const v => closedV v
  | .global _ => false
  | .func _ => true
def Fr.put (fr : Fr) (d : Option Tmp) (v : Value) : Option Fr :=
  match d with
  | none => some fr
  | some d => bif Nat.blt d fr.n then (fV v).bind fun v => (T.set 30 fr.tm d (some v)).bind fun t => (fN fr.n).bind fun n => some ⟨t, n⟩ else none
/-- A reckoning that looks at no memory. -/
def runP {α : Type} (P : Program) : Sem α → Option α
  | .pure a => some a
  | .program k => runP P (k P)
  | .mark _ k => runP P k
  | _ => none
def allOk : List Operand → Bool
  | [] => true
  | x :: l => okOp x && allOk l
def allClosed (fr : Fr) : List Operand → Bool
  | [] => true
  | x :: l => okOp x && closedV (fr.op x) && allClosed fr l
def pureA (P : Program) (fr : Fr) (o : Oper) : Option Value :=
  bif allClosed fr o.op.operands.toList then
    match runP P (execOp fr.op o) with
    | some (.value v) => bif closedV v then some v else none
    | _ => none
  else none
/-! Slicing. -/
def bnd (x : Option Value) (dflt : Nat) : Option Nat :=
  match x with
  | none => some dflt
  | some (.int _ (.ofNat n)) => fN n
  | _ => none
def sliceA (P : Program) (s : S) (t : TypeId) (x : Value) (lo hi mx : Option Value) : Option Value :=
  (P.underlying t).bind fun d =>
  match d, x with
  | .slice e, .slice (some ⟨b, o, none⟩) n c => (P.info? e).bind fun i => (bnd lo 0).bind fun l => (bnd hi n).bind fun h =>
    match s.get b with
    | some (.cells _ _ z) =>
      bif Nat.beq z i.size || Nat.beq (c % 2) 0 then
        match mx with
        | none =>
          bif Nat.ble l h && (Nat.ble h (c / 2) || hi.isNone) then
            (fN (h - l)).bind fun n' => (fN (c - 2 * l)).bind fun c' => (fN (o + l * i.size)).bind fun o' =>
              bif Nat.beq l 0 then some (.slice (some ⟨b, o, none⟩) n' c)
              else bif Nat.blt l (c / 2) then some (.slice (some ⟨b, o', none⟩) n' c')
              else bif Nat.beq (c % 2) 0 then some (.slice (some ⟨b, o, none⟩) 0 0) else some (.slice (some ⟨b, o, none⟩) 0 1)
          else none
        | some m => (bnd (some m) 0).bind fun m =>
          bif Nat.ble l h && Nat.ble h m && Nat.ble m (c / 2) && hi.isSome then
            (fN (h - l)).bind fun n' => (fN (2 * (m - l))).bind fun c' => (fN (o + l * i.size)).bind fun o' =>
              bif Nat.beq l m then (bif Nat.beq (c % 2) 0 then some (.slice (some ⟨b, o, none⟩) 0 0) else some (.slice (some ⟨b, o, none⟩) 0 1)) else some (.slice (some ⟨b, o', none⟩) n' c')
          else none
      else none
    | _ => none
  | .array n e, .pointer (some ⟨b, o, none⟩) => (P.info? e).bind fun i => (bnd lo 0).bind fun l => (bnd hi n).bind fun h =>
    match mx with
    | none =>
      bif Nat.ble l h && Nat.ble h n then
        (fN (h - l)).bind fun n' => (fN (2 * (n - l))).bind fun c' => (fN (o + l * i.size)).bind fun o' =>
          bif Nat.beq l n then some (.slice (some ⟨b, o, none⟩) 0 0) else some (.slice (some ⟨b, o', none⟩) n' c')
      else none
    | _ => none
  | _, _ => none
/-! Making. -/
def repL (z : List Value) : Nat → Option (List Value)
  | 0 => some []
  | n + 1 => (repL z n).bind fun l => app z l
/-- append(nil, make(..)...). -/
def appendZ (P : Program) (s : S) (t : TypeId) (sv xv : Value) : Option (Value × S) :=
  (P.underlying t).bind fun d =>
  match d with
  | .slice e => (P.info? e).bind fun i => i.zero.bind fun zv =>
    match sv, xv with
    | .slice none 0 0, .int _ (.ofNat n) =>
      bif closedVs zv.cells.toList && Nat.beq zv.cells.toList.length i.size && Nat.blt 0 i.size && Nat.blt 0 n && Nat.ble (n * i.bytes + n) 1099511627776 then
        (repL zv.cells.toList n).bind fun cs => (fN n).bind fun n => rowA s cs i.size n (2 * n + 1)
      else none
    | _, _ => none
  | _ => none
def appendB (P : Program) (s : S) (t tx : TypeId) (sv xv : Value) : Option (Value × S) :=
  (P.underlying tx).bind fun d =>
  match d with
  | .int _ => appendZ P s t sv xv
  | _ => appendA P s t tx sv xv
def makeSliceA (P : Program) (s : S) (t : TypeId) (len cap : Value) : Option (Value × S) :=
  (P.underlying t).bind fun d =>
  match d, len, cap with
  | .slice e, .int _ (.ofNat l), .int _ (.ofNat c) => (P.info? e).bind fun i => i.zero.bind fun zv =>
    bif Nat.ble l c && Nat.ble (i.bytes * c + c) 1099511627776 && Nat.ble i.bytes 1000000 && closedVs zv.cells.toList && Nat.beq zv.cells.toList.length i.size && Nat.ble 1 i.size then
      (repL zv.cells.toList c).bind fun cs => (fN l).bind fun l => (fN (2 * c)).bind fun c2 => rowA s cs i.size l c2
    else none
  | _, _, _ => none
def fillA (place : Nat → Option (Nat × Nat)) : List Value → List (Nat × Value) → Option (List Value)
  | cs, [] => some cs
  | cs, (i, v) :: rest => (place i).bind fun (off, size) => bif Nat.beq v.cells.toList.length size && Nat.ble (off + size) cs.length then (setLs cs off v.cells.toList).bind fun cs' => fillA place cs' rest else none
def evParts (fr : Fr) : List (Nat × Operand) → Option (List (Nat × Value))
  | [] => some []
  | (i, x) :: l => bif okOp x then (evParts fr l).bind fun r => some ((i, fr.op x) :: r) else none
def placesA (P : Program) : List Field → Option (List (Nat × Nat))
  | [] => some []
  | f :: l => (P.info? f.type).bind fun i => (placesA P l).bind fun r => some ((f.offset, i.size) :: r)
def buildA (P : Program) (t : TypeId) (parts : List (Nat × Value)) : Option Value :=
  (P.info? t).bind fun it => it.zero.bind fun z => (P.underlying t).bind fun d =>
  bif closedVs z.cells.toList then
    match d with
    | .array _ e => (P.info? e).bind fun ie => (fillA (fun i => some (i * ie.size, ie.size)) z.cells.toList parts).bind fun cs => some (.agg ⟨cs⟩)
    | .struct fields => (placesA P fields.toList).bind fun pl => (fillA (nth pl) z.cells.toList parts).bind fun cs => some (.agg ⟨cs⟩)
    | _ => none
  else none
def buildSliceA (P : Program) (s : S) (t : TypeId) (len : Nat) (parts : List (Nat × Value)) : Option (Value × S) :=
  (P.underlying t).bind fun d =>
  match d with
  | .slice e => (P.info? e).bind fun i => i.zero.bind fun zv =>
    bif closedVs zv.cells.toList && Nat.beq zv.cells.toList.length i.size && Nat.ble (len * i.size) 16777216 then
      (repL zv.cells.toList len).bind fun cs0 => (fillA (fun j => some (j * i.size, i.size)) cs0 parts).bind fun cs => (fN (2 * len)).bind fun c2 => rowA s cs i.size len c2
    else none
  | _ => none
def partA (P : Program) (t : TypeId) (cs : List Value) (off : Nat) : Option Value :=
  (P.underlying t).bind fun d => bif d.isRow then (P.info? t).bind fun i => (takeL i.size (cs.drop off)).bind fun l => some (.agg ⟨l⟩) else nth cs off
def fieldA (P : Program) (t : TypeId) (x : Value) (f : Nat) : Option Value :=
  (P.underlying t).bind fun d =>
  match d, x with
  | .struct fields, .agg cs => (nth fields.toList f).bind fun fd => partA P fd.type cs.toList fd.offset
  | _, _ => none
def fieldAddrA (P : Program) (t : TypeId) (x : Value) (f : Nat) : Option Value :=
  (P.underlying t).bind fun d =>
  match d, x with
  | .struct fields, .pointer (some ⟨b, o, none⟩) => (nth fields.toList f).bind fun fd => (P.info? fd.type).bind fun i =>
    bif Nat.beq i.size 0 then none else (fN (o + fd.offset)).bind fun o' => some (.pointer (some ⟨b, o', none⟩))
  | _, _ => none
def indexA (P : Program) (t : TypeId) (x ix : Value) : Option Value :=
  (P.underlying t).bind fun d =>
  match d, x, ix with
  | .array len e, .agg cs, .int _ (.ofNat i) => bif Nat.blt i len then (P.info? e).bind fun ie => partA P e cs.toList (i * ie.size) else none
  | _, _, _ => none
def indexAddrA (P : Program) (s : S) (t : TypeId) (x ix : Value) : Option Value :=
  (P.underlying t).bind fun d =>
  match d, x, ix with
  | .array len e, .pointer (some ⟨b, o, none⟩), .int _ (.ofNat i) =>
    bif Nat.blt i len then (P.info? e).bind fun ie => (fN (o + i * ie.size)).bind fun o' => some (.pointer (some ⟨b, o', none⟩)) else none
  | .slice e, .slice (some ⟨b, o, none⟩) n _, .int _ (.ofNat i) =>
    bif Nat.blt i n then (P.info? e).bind fun ie => (fN (o + i * ie.size)).bind fun o' => some (.pointer (some ⟨b, o', none⟩)) else none
  | _, _, _ => none
/-! Text. -/
def textL : List Value → Option (List UInt8)
  | [] => some []
  | .int .u8 (.ofNat n) :: l => (fN n).bind fun n => (textL l).bind fun r => some (UInt8.ofNat n :: r)
  | _ :: _ => none
def convA (P : Program) (s : S) (src dst : TypeId) (x : Value) : Option (Value × S) :=
  (P.underlying src).bind fun d1 => (P.underlying dst).bind fun d2 =>
  match d1, d2, x with
  | .string, .slice e, .string b => (P.underlying e).bind fun d3 =>
    match d3 with
    | .int .u8 => (byteL b.data.toList).bind fun cs => rowA s cs 1 b.size (2 * b.size + 1)
    | _ => none
  | .slice e, .string, .slice a n _ => (P.underlying e).bind fun d3 =>
    match d3, a with
    | .int .u8, none => some (.string ⟨#[]⟩, s)
    | .int .u8, some ⟨b, o, none⟩ => bif Nat.beq n 0 then some (.string ⟨#[]⟩, s) else (cellsOf s b o n).bind fun l => (textL l).bind fun r => some (.string ⟨⟨r⟩⟩, s)
    | _, _ => none
  | _, _, _ => none
def copyA (P : Program) (s : S) (dt st : TypeId) (dst src : Value) : Option (Value × S) :=
  (P.underlying dt).bind fun d =>
  match d, dst with
  | .slice e, .slice (some ⟨b, o, none⟩) n _ => (P.info? e).bind fun i => (srcA P s i.size st src).bind fun (m, l) =>
    (fN (min m n)).bind fun k =>
    bif Nat.beq k 0 then some (.int .i64 0, s) else
    (takeL (k * i.size) l).bind fun l => bif allOne l then
      match s.get b with
      | some (.cells cs false z) => (setLs cs o l).bind fun cs' => (s.put b (some (.cells cs' false z))).bind fun s' => some (.int .i64 (.ofNat k), s')
      | _ => none
    else none
  | .slice e, .slice none 0 0 => some (.int .i64 0, s)
  | _, _ => none
/-! Maps. -/
def isKeyB : TypeDesc → Value → Bool
  | .bool, .bool _ => true
  | .int k, .int k' _ => decide (k' = k)
  | .string, .string _ => true
  | _, _ => false
def mapOf (s : S) : Value → Option (List MapEntry)
  | .map none => some []
  | .map (some r) => match s.get r with | some (.map es _) => some es | _ => none
  | _ => none
def lookupA (P : Program) (s : S) (t : TypeId) (m k : Value) (ok : Bool) : Option Value :=
  (P.underlying t).bind fun d =>
  match d with
  | .map kt e => (P.underlying kt).bind fun kd => bif isKeyB kd k then
      (mapOf s m).bind fun es => (Instr.findNow kd k es 0).bind fun r =>
        match r with
        | some (_, v) => some (bif ok then .tuple #[v, .bool true] else v)
        | none => (P.info? e).bind fun i => i.zero.bind fun z => bif closedV z then some (bif ok then .tuple #[z, .bool false] else z) else none
    else none
  | _ => none
def setE (v : Value) : List MapEntry → Nat → Option (List MapEntry)
  | [], _ => none
  | e :: l, n => bif Nat.beq n 0 then some (⟨e.key, v, e.born⟩ :: l) else (setE v l (n - 1)).bind fun r => some (e :: r)
def delE : List MapEntry → Nat → Option (List MapEntry)
  | [], _ => none
  | e :: l, n => bif Nat.beq n 0 then some l else (delE l (n - 1)).bind fun r => some (e :: r)
def mapUpdateA (P : Program) (s : S) (t : TypeId) (m k v : Value) : Option S :=
  (P.underlying t).bind fun d =>
  match d, m with
  | .map kt _, .map (some r) => (P.underlying kt).bind fun kd => bif isKeyB kd k then
      match s.get r with
      | some (.map es clock) => (Instr.findNow kd k es 0).bind fun f => (fV v).bind fun v =>
        match f with
        | some (i, _) => (setE v es i).bind fun es' => s.put r (some (.map es' clock))
        | none => (fV k).bind fun k => (app es [⟨k, v, clock⟩]).bind fun es' => (fN (clock + 1)).bind fun c => s.put r (some (.map es' c))
      | _ => none
    else none
  | _, _ => none
def mapEntryA (P : Program) (s : S) (t : TypeId) (m k : Value) : Option (Value × S) :=
  (P.underlying t).bind fun d =>
  match d, m with
  | .map kt e, .map (some r) => (P.underlying kt).bind fun kd => bif isKeyB kd k then
      match s.get r with
      | some (.map es clock) => (Instr.findNow kd k es 0).bind fun f =>
        match f with
        | some (i, v) => (nth es i).bind fun en => some (.tuple #[v, .int .i64 (.ofNat en.born)], s)
        | none => (P.info? e).bind fun i => i.zero.bind fun z => bif closedV z then
            (fV k).bind fun k => (app es [⟨k, z, clock⟩]).bind fun es' => (fN (clock + 1)).bind fun c => (s.put r (some (.map es' c))).bind fun s' => some (.tuple #[z, .int .i64 (.ofNat clock)], s')
          else none
      | _ => none
    else none
  | _, _ => none
def bornAt (n : Nat) : List MapEntry → Nat → Option Nat
  | [], _ => none
  | e :: l, i => bif Nat.beq e.born n then some i else bornAt n l (i + 1)
def entryStoreA (s : S) (m st v : Value) : Option S :=
  match m, st with
  | .map (some r), .int _ (.ofNat n) =>
    match s.get r with
    | some (.map es clock) => (bornAt n es 0).bind fun i => (fV v).bind fun v => (setE v es i).bind fun es' => s.put r (some (.map es' clock))
    | _ => none
  | _, _ => none
def deleteA (P : Program) (s : S) (t : TypeId) (m k : Value) : Option S :=
  (P.underlying t).bind fun d =>
  match d, m with
  | .map kt _, .map (some r) => (P.underlying kt).bind fun kd => bif isKeyB kd k then
      match s.get r with
      | some (.map es clock) => (Instr.findNow kd k es 0).bind fun f =>
        match f with
        | some (i, _) => (delE es i).bind fun es' => s.put r (some (.map es' clock))
        | none => some s
      | _ => none
    else none
  | _, _ => none
def lenA (P : Program) (s : S) (t : TypeId) (x : Value) : Option Value :=
  (P.underlying t).bind fun d =>
  match d, x with
  | .string, .string b => (fN b.size).bind fun n => some (.int .i64 (.ofNat n))
  | .array n _, _ => some (.int .i64 (.ofNat n))
  | .slice _, .slice _ n _ => some (.int .i64 (.ofNat n))
  | .map _ _, .map none => some (.int .i64 0)
  | .map _ _, .map (some r) => match s.get r with | some (.map es _) => (fN es.length).bind fun n => some (.int .i64 (.ofNat n)) | _ => none
  | _, _ => none
def capA (P : Program) (t : TypeId) (x : Value) : Option Value :=
  (P.underlying t).bind fun d =>
  match d, x with
  | .slice _, .slice _ _ c => bif Nat.beq (c % 2) 0 then (fN (c / 2)).bind fun c => some (.int .i64 (.ofNat c)) else none
  | _, _ => none
def eqA (P : Program) (t : TypeId) (x y : Value) : Option Bool :=
  (P.underlying t).bind fun d =>
  match d, x, y with
  | .pointer _, .pointer none, .pointer b => some b.isNone
  | .pointer _, .pointer (some _), .pointer none => some false
  | .slice _, .slice none _ _, .slice b _ _ => some b.isNone
  | .slice _, .slice (some _) _ _, .slice none _ _ => some false
  | .map _ _, .map none, .map b => some b.isNone
  | .map _ _, .map (some _), .map none => some false
  | .func .., .nilFunc, .nilFunc => some true
  | .func .., .nilFunc, .func .. => some false
  | .func .., .func .., .nilFunc => some false
  | .interface _, .nilIface, .iface _ _ => some false
  | .interface _, .iface _ _, .nilIface => some false
  | _, _, _ => none
/-- What an operation is to memory: 0: it reads at most; 1: it makes a block of its own out of what it is given; 2: all else. -/
def effOf (P : Program) : Op → Nat
  | .alloc _ | .box .. | .buildSlice .. => 1
  | .makeSlice .. | .makeMap .. | .store .. | .mapUpdate .. | .insert .. | .mapEntry .. | .entryStore .. | .panic _ | .defer _ => 2
  | .convert src dst _ => match P.underlying src, P.underlying dst with | some .string, some (.slice _) => 2 | _, _ => 0
  | .call c => match c.callee with
    | .builtin b => match b with | .append | .copy | .delete | .clear | .recover => 2 | _ => 0
    | _ => 2
  | _ => 0
/-! All operations. -/
inductive Out where
  | val (v : Value) (s : S)
  | call (f : FuncId) (args : List Value) (s : S)
  | pan (v : Value)
  | dfr (f : FuncId) (args : List Value)
  | recov
  | yield (l : Nat) (args : List Value)
def evL (fr : Fr) : List Operand → Option (List Value)
  | [] => some []
  | x :: l => bif okOp x then (evL fr l).bind fun r => some (fr.op x :: r) else none
def ok1 (s : S) (v : Option Value) : Option Out := v.bind fun v => some (.val v s)
def ok2 (r : Option (Value × S)) : Option Out := r.bind fun (v, s) => some (.val v s)
def okS (r : Option S) : Option Out := r.bind fun s => some (.val undef s)
def okT (r : Option S) : Option Out := r.bind fun s => some (.val (.tuple #[]) s)
def hasBody (P : Program) (f : FuncId) : Bool :=
  match nth P.funcs.toList f with
  | some fn => fn.body.isSome && !(fn.name == "runtime.NumGoroutine")
  | none => false
def fnA (P : Program) (fv : Value) (args : List Value) : Option (FuncId × List Value) :=
  match fv with
  | .func (.func f) x y => bif hasBody P f then (app x.toList args).bind fun l => (app l y.toList).bind fun l => some (f, l) else none
  | _ => none
def optA (fr : Fr) : Option Operand → Option (Option Value)
  | none => some none
  | some x => bif okOp x then some (some (fr.op x)) else none
def aop (P : Program) (fr : Fr) (s : S) (o : Oper) : Option Out :=
  match o.op with
  | .move x | .assign x => bif okOp x then some (.val (fr.op x) s) else none
  | .pick c a b =>
    bif okOp c && okOp a && okOp b then
      match fr.op c with
      | .bool true => some (.val (fr.op a) s)
      | .bool false => some (.val (fr.op b) s)
      | _ => none
    else none
  | .alloc e => ok2 (allocA P s e)
  | .box e x => bif okOp x then ok2 (boxA P s e (fr.op x)) else none
  | .build t parts => (evParts fr parts.toList).bind fun ps => ok1 s (buildA P t ps)
  | .buildSlice t len parts => (evParts fr parts.toList).bind fun ps => ok2 (buildSliceA P s t len ps)
  | .load t a => bif okOp a then ok1 s (loadA P s t (fr.op a)) else none
  | .store t a x => bif okOp a && okOp x then okS (storeA P s t (fr.op a) (fr.op x)) else none
  | .nilCheck x => bif okOp x then
      match fr.op x with
      | .pointer (some a) => some (.val (.pointer (some a)) s)
      | .func (.func f) x y => some (.val (.func (.func f) x y) s)
      | _ => none
    else none
  | .binOp op t x y _ => bif okOp x && okOp y then
      match op, eqA P t (fr.op x) (fr.op y) with
      | .eql, some b => some (.val (.bool b) s)
      | .neq, some b => some (.val (.bool (!b)) s)
      | _, _ => ok1 s (pureA P fr o)
    else none
  | .convert src dst x => bif okOp x then
      match convA P s src dst (fr.op x) with
      | some (v, s') => some (.val v s')
      | none => ok1 s (pureA P fr o)
    else none
  | .makeInterface t x => bif okOp x then
      match P.underlying t with
      | some (.interface _) => none
      | some _ => some (.val (.iface t (fr.op x)) s)
      | none => none
    else none
  | .makeFunc fn first cap =>
    match fn with
    | .func f => (evL fr first.toList).bind fun x => (evL fr cap.toList).bind fun y => some (.val (.func (.func f) ⟨x⟩ ⟨y⟩) s)
    | _ => none
  | .makeMap t none => (s.push (.map [] 0)).bind fun (i, s') => some (.val (.map (some i)) s')
  | .makeSlice t l c => bif okOp l && okOp c then ok2 (makeSliceA P s t (fr.op l) (fr.op c)) else none
  | .slice t x lo hi mx => bif okOp x then (optA fr lo).bind fun l => (optA fr hi).bind fun h => (optA fr mx).bind fun m =>
      match sliceA P s t (fr.op x) l h m with
      | some v => some (.val v s)
      | none => ok1 s (pureA P fr o)
    else none
  | .fieldAddr t x f => bif okOp x then ok1 s (fieldAddrA P t (fr.op x) f) else none
  | .field t x f => bif okOp x then ok1 s (fieldA P t (fr.op x) f) else none
  | .indexAddr t x ix => bif okOp x && okOp ix then ok1 s (indexAddrA P s t (fr.op x) (fr.op ix)) else none
  | .index t x ix => bif okOp x && okOp ix then
      match indexA P t (fr.op x) (fr.op ix) with
      | some v => some (.val v s)
      | none => ok1 s (pureA P fr o)
    else none
  | .lookup t x ix ok => bif okOp x && okOp ix then ok1 s (lookupA P s t (fr.op x) (fr.op ix) ok) else none
  | .mapUpdate t m k x | .insert t m k x => bif okOp m && okOp k && okOp x then okS (mapUpdateA P s t (fr.op m) (fr.op k) (fr.op x)) else none
  | .mapEntry t m k => bif okOp m && okOp k then ok2 (mapEntryA P s t (fr.op m) (fr.op k)) else none
  | .entryStore t m st x => bif okOp m && okOp st && okOp x then okS (entryStoreA s (fr.op m) (fr.op st) (fr.op x)) else none
  | .extract t ix => bif okOp t then
      match fr.op t with
      | .tuple vs => (nth vs.toList ix).bind fun v => some (.val v s)
      | _ => none
    else none
  | .panic x => bif okOp x then
      match fr.op x with
      | .iface t v => some (.pan (.iface t v))
      | _ => none
    else none
  | .defer c =>
    match c.callee with
    | .value f => bif okOp f then (evL fr c.args.toList).bind fun args => (fnA P (fr.op f) args).bind fun (f, l) => some (.dfr f l) else none
    | _ => none
  | .call c =>
    match c.callee with
    | .value f => bif okOp f then (evL fr c.args.toList).bind fun args =>
        match fr.op f with
        | .func (.yield l) _ _ => some (.yield l args)
        | fv => (fnA P fv args).bind fun (f, l) => some (.call f l s)
      else none
    | .builtin b => (evL fr c.args.toList).bind fun args =>
      match b, c.argTypes.toList, args with
      | .append, [t, tx], [sv, xv] => ok2 (appendB P s t tx sv xv)
      | .copy, _, _ => none
      | .len, [t], [x] => ok1 s (lenA P s t x)
      | .cap, [t], [x] => ok1 s (capA P t x)
      | .delete, [t, _], [m, k] => okT (deleteA P s t m k)
      | .recover, _, _ => some .recov
      | _, _, _ => ok1 s (pureA P fr o)
    | _ => none
  | _ => ok1 s (pureA P fr o)
end Go.Rx
