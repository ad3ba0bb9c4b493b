/-
A second reading of a program's text: how code is gone through.
-/
import Derived.Test.YtoebckilnicafaaGreatRxE
set_option linter.unusedVariables false
set_option linter.unusedSimpArgs false
namespace Go.Rx
open Go.RowKit
inductive Ex where
  | normal
  | exit (id : Nat)
  | goto (l : Nat)
  | ret
  | pan (v : Value)
/-- What a call comes to. -/
inductive CR where
  | ret (v : Value) (s : S)
  | pan (v : Value) (s : S)
/-- Whoever is called. -/
abbrev Caller := FuncId → List Value → S → Option CR
structure St where
  fr : Fr
  s : S
def guardA (fr : Fr) (ops : List Oper) (o : Oper) : Option Bool :=
  match o.guard with
  | none => some true
  | some (j, want) => (nth ops j).bind fun oj =>
    match oj.dst with
    | some d => (match fr.at d with
      | .bool b => some (b == want)
      | _ => some false)
    | none => some false
/-- One operation, calls and all. -/
def valA (P : Program) (o : Oper) (fr : Fr) (s : S) : Option (Ex × Fr × S) :=
  match aop P fr s o with
  | some (.val v s') => (fr.put o.dst v).bind fun fr' => some (.normal, fr', s')
  | _ => none
def stepA (P : Program) (call : Caller) (o : Oper) (fr : Fr) (s : S) : Option (Ex × Fr × S) :=
  match o.op with
  | .call c =>
    match c.callee with
    | .value f => bif okOp f then (evL fr c.args.toList).bind fun args => (fnA P (fr.op f) args).bind fun (g, l) => (call g l s).bind fun r =>
        match r with
        | .ret v s2 => (fr.put o.dst v).bind fun fr' => some (.normal, fr', s2)
        | .pan v s2 => some (.pan v, fr, s2)
      else none
    | _ => valA P o fr s
  | .panic x => bif okOp x then
      match fr.op x with
      | .iface t v => some (.pan (.iface t v), fr, s)
      | _ => none
    else none
  | _ => valA P o fr s
/-- A region in the order of the text. -/
def runOps (P : Program) (call : Caller) (ops : List Oper) : List Oper → Fr → S → Option (Ex × Fr × S)
  | [], fr, s => some (.normal, fr, s)
  | o :: l, fr, s => (guardA fr ops o).bind fun g =>
    bif g then (stepA P call o fr s).bind fun (e, fr', s') =>
      match e with
      | .normal => runOps P call ops l fr' s'
      | e => some (e, fr', s')
    else (fr.put o.dst undef).bind fun fr' => runOps P call ops l fr' s
/-- A value's spelling is the same? -/
def sameV : Nat → Value → Value → Bool
  | _, .bool a, .bool b => a == b
  | _, .int j a, .int k b => decide (j = k) && decide (a = b)
  | _, .string a, .string b => decide (a.data.toList = b.data.toList)
  | _, .pointer none, .pointer none => true
  | _, .pointer (some a), .pointer (some b) => decide (a = b)
  | _, .slice none n c, .slice none n' c' => Nat.beq n n' && Nat.beq c c'
  | _, .slice (some a) n c, .slice (some a') n' c' => decide (a = a') && Nat.beq n n' && Nat.beq c c'
  | _, .map a, .map b => decide (a = b)
  | _, .nilFunc, .nilFunc => true
  | _, .nilIface, .nilIface => true
  | n + 1, .iface t v, .iface t' v' => Nat.beq t t' && sameV n v v'
  | n + 1, .agg a, .agg b => sameVs n a.toList b.toList
  | n + 1, .tuple a, .tuple b => sameVs n a.toList b.toList
  | n + 1, .func (.func f) a b, .func (.func g) c d => Nat.beq f g && sameVs n a.toList c.toList && sameVs n b.toList d.toList
  | _, _, _ => false
where sameVs : Nat → List Value → List Value → Bool
  | _, [], [] => true
  | n, a :: l, b :: m => sameV n a b && sameVs n l m
  | _, _, _ => false
/-! A region that draws its order. -/
def upd (l : List Nat) (i : Nat) : Nat := (nth l i).getD 0
/-- What has to be behind an operation before it comes up: its own edges, and what these wait for. -/
def maskOf (acc : List Nat) : List Edge → Nat → Nat
  | [], m => m
  | e :: l, m => bif Region.binds .any e then maskOf acc l (m ||| 2 ^ e.on ||| upd acc e.on) else maskOf acc l m
def masks : List Oper → List Nat → Option (List Nat)
  | [], acc => some acc
  | o :: l, acc => (fN (maskOf acc o.after.toList 0)).bind fun m => (app acc [m]).bind fun acc' => masks l acc'
def bit (bs : List Nat) (i j : Nat) : Bool := (upd bs j).testBit i
def edgesBack : List Edge → Nat → Bool
  | [], _ => true
  | e :: l, j => (!Region.binds .any e || Nat.blt e.on j) && edgesBack l j
def allBack : List Oper → Nat → Bool
  | [], _ => true
  | o :: l, j => edgesBack o.after.toList j && allBack l (j + 1)
def tmpsOf : List Operand → List Tmp
  | [] => []
  | .tmp t :: l => t :: tmpsOf l
  | _ :: l => tmpsOf l
def gslot (ops : List Oper) (o : Oper) : List Tmp :=
  match o.guard with
  | none => []
  | some (j, _) => match nth ops j with
    | some oj => (match oj.dst with | some d => [d] | none => [])
    | none => []
def looks (ops : List Oper) (o : Oper) : List Tmp := tmpsOf o.op.operands.toList ++ gslot ops o
def hasT : List Nat → Nat → Bool
  | [], _ => false
  | x :: l, i => Nat.beq x i || hasT l i
/-- Whoever writes what j looks at or writes is ahead of it or behind it. -/
def slotOne (bs : List Nat) (j : Nat) (ts : List Tmp) : List Oper → Nat → Bool
  | [], _ => true
  | o :: l, i => (match o.dst with
      | some d => !(hasT ts d) || Nat.beq i j || (bif Nat.blt i j then bit bs i j else bit bs j i)
      | none => true) && slotOne bs j ts l (i + 1)
def slotAll (bs : List Nat) (ops : List Oper) : List Oper → Nat → Bool
  | [], _ => true
  | o :: l, j => slotOne bs j (looks ops o ++ (match o.dst with | some d => [d] | none => [])) ops 0 && slotAll bs ops l (j + 1)
def noSel : List Oper → Bool
  | [] => true
  | o :: l => (match o.op with | .select .. => false | _ => true) && noSel l
def staticOk (ops : List Oper) : Option (List Nat) :=
  (masks ops []).bind fun bs => bif allBack ops 0 && slotAll bs ops ops 0 && noSel ops then some bs else none
def onlyOf (fr : Fr) : List Tmp → Fr → Option Fr
  | [], r => some r
  | t :: l, r => bif Nat.blt t fr.n then (T.set 30 r.tm t (some (fr.at t))).bind fun tm => onlyOf fr l ⟨tm, fr.n⟩ else onlyOf fr l r
/-- A block of its own, out of what is given: its cells, and what is handed back of a block of that number. -/
def buildCells (P : Program) (t : TypeId) (len : Nat) (parts : List (Nat × Value)) : Option (List Value × Nat) :=
  (P.underlying t).bind fun d =>
  match d with
  | .slice e => (P.info? e).bind fun i => i.zero.bind fun zv =>
    bif closedVs zv.cells.toList && Nat.beq zv.cells.toList.length i.size && Nat.ble (len * i.size) 16777216 then
      (repL zv.cells.toList len).bind fun cs0 => (fillA (fun j => some (j * i.size, i.size)) cs0 parts).bind fun cs => some (cs, i.size)
    else none
  | _ => none
def mkA (P : Program) (fr : Fr) (o : Oper) : Option (List Value × Nat × (Nat → Value)) :=
  match o.op with
  | .alloc e => (P.info? e).bind fun i => i.zero.bind fun zv => bif closedVs zv.cells.toList then some (zv.cells.toList, i.size, fun k => .pointer (some ⟨k, 0, none⟩)) else none
  | .box e x => bif okOp x then (P.info? e).bind fun i => some ((fr.op x).cells.toList, i.size, fun k => .pointer (some ⟨k, 0, none⟩)) else none
  | .buildSlice t len parts => (evParts fr parts.toList).bind fun ps => (buildCells P t len ps).bind fun (cs, z) => some (cs, z, fun k => .slice (some ⟨k, 0, none⟩) len (2 * len))
  | _ => none
def stepV (P : Program) (call : Caller) (o : Oper) (fr : Fr) (s : S) : Option (Value × S) :=
  match o.op with
  | .call c =>
    match c.callee with
    | .value f => bif okOp f then (evL fr c.args.toList).bind fun args => (fnA P (fr.op f) args).bind fun (g, l) => (call g l s).bind fun r =>
        match r with
        | .ret v s2 => some (v, s2)
        | .pan _ _ => none
      else none
    | _ => match aop P fr s o with | some (.val v s') => some (v, s') | _ => none
  | .panic _ => none
  | _ => match aop P fr s o with | some (.val v s') => some (v, s') | _ => none
inductive Rec where
  | skip
  | rd (v : Value)
  | mk (k : Nat) (b : Blk) (v : Value)
  | eff (pre post : S) (v : Value)
def Rec.val : Rec → Value
  | .skip => undef
  | .rd v | .mk _ _ v | .eff _ _ v => v
abbrev Pend := List (Nat × Nat × Blk)
/-- The blocks that operation j waits for are laid into memory. -/
def layP (bs : List Nat) (j : Nat) : Pend → S → Option (S × Pend)
  | [], s => some (s, [])
  | (i, k, b) :: l, s => bif bit bs i j then (s.put k (some b)).bind fun s' => layP bs j l s' else (layP bs j l s).bind fun (s', r) => some (s', (i, k, b) :: r)
def layAll : Pend → S → Option S
  | [], s => some s
  | (_, k, b) :: l, s => (s.put k (some b)).bind fun s' => layAll l s'
def drawGo (P : Program) (call : Caller) (ops : List Oper) (bs : List Nat) (N0 : Nat) : List Oper → Nat → Fr → S → Pend → Option (List (Fr × Rec) × Fr × S)
  | [], _, fr, s, pe => (layAll pe s).bind fun s' => some ([], fr, s')
  | o :: l, j, fr, s, pe =>
    (onlyOf fr (looks ops o) ⟨.nil, fr.n⟩).bind fun r => (guardA r ops o).bind fun g => (fN (j + 1)).bind fun j' =>
    bif g then
      match effOf P o.op with
      | 0 => (match aop P r s o with
        | some (.val v _) => (fr.put o.dst v).bind fun fr' => (drawGo P call ops bs N0 l j' fr' s pe).bind fun (rs, x) => some ((r, .rd v) :: rs, x)
        | _ => none)
      | 1 => (mkA P r o).bind fun (cs, z, f) => (fN (N0 + j)).bind fun k => (fr.put o.dst (f k)).bind fun fr' =>
          (drawGo P call ops bs N0 l j' fr' s ((j, k, .cells cs false z) :: pe)).bind fun (rs, x) => some ((r, .mk k (.cells cs false z) (f k)) :: rs, x)
      | _ => (layP bs j pe s).bind fun (s1, pe') => (stepV P call o r s1).bind fun (v, s2) => (fr.put o.dst v).bind fun fr' =>
          (drawGo P call ops bs N0 l j' fr' s2 pe').bind fun (rs, x) => some ((r, .eff s1 s2 v) :: rs, x)
    else (fr.put o.dst undef).bind fun fr' => (drawGo P call ops bs N0 l j' fr' s pe).bind fun (rs, x) => some ((r, .skip) :: rs, x)
/-- The effects, with the memory behind each. -/
def effsIn : List (Fr × Rec) → Nat → List (Nat × S)
  | [], _ => []
  | (_, .eff _ post _) :: l, j => (j, post) :: effsIn l (j + 1)
  | _ :: l, j => effsIn l (j + 1)
def aheadAll (bs : List Nat) (i : Nat) : List (Nat × S) → Bool
  | [] => true
  | (e, _) :: l => bit bs i e && aheadAll bs i l
def chain (bs : List Nat) : List (Nat × S) → Bool
  | [] => true
  | (i, _) :: l => aheadAll bs i l && chain bs l
def anyAhead (bs : List Nat) (j : Nat) : List (Nat × S) → Bool
  | [] => false
  | (e, _) :: l => bit bs e j || anyAhead bs j l
/-- A reader's value is the same wherever it may come up. -/
def rdAt (P : Program) (o : Oper) (r : Fr) (v : Value) (s : S) : Bool := match aop P r s o with | some (.val u _) => sameV 20 u v | _ => false
def rdOk (P : Program) (bs : List Nat) (j : Nat) (o : Oper) (r : Fr) (v : Value) : S → List (Nat × S) → Bool
  | s, [] => rdAt P o r v s
  | s, (e, post) :: l => (anyAhead bs j ((e, post) :: l) || rdAt P o r v s) && (bit bs j e || rdOk P bs j o r v post l)
def rdsOk (P : Program) (bs : List Nat) (s : S) (es : List (Nat × S)) : List Oper → List (Fr × Rec) → Nat → Bool
  | o :: ops, (r, .rd v) :: l, j => rdOk P bs j o r v s es && rdsOk P bs s es ops l (j + 1)
  | _ :: ops, _ :: l, j => rdsOk P bs s es ops l (j + 1)
  | _, _, _ => true
def runDraw (P : Program) (call : Caller) (ops : List Oper) (fr : Fr) (s : S) : Option (Ex × Fr × S) :=
  (staticOk ops).bind fun bs => (fN (s.next + ops.length)).bind fun n1 =>
    (drawGo P call ops bs s.next ops 0 fr ⟨n1, s.h⟩ []).bind fun (rs, fr', s') =>
      bif chain bs (effsIn rs 0) && rdsOk P bs ⟨n1, s.h⟩ (effsIn rs 0) ops rs 0 then some (.normal, fr', s') else none
def runRegion (P : Program) (call : Caller) (ops : Array Oper) (draw : Bool) (fr : Fr) (s : S) : Option (Ex × Fr × S) :=
  bif draw then runDraw P call ops.toList fr s else runOps P call ops.toList ops.toList fr s
def runCode (P : Program) (call : Caller) : Nat → Code → Fr → S → Option (Ex × Fr × S)
  | 0, _, _, _ => none
  | n + 1, c, fr, s =>
    match c with
    | .skip | .label _ => some (.normal, fr, s)
    | .region _ ops draw => runRegion P call ops draw fr s
    | .seq a b => (runCode P call n a fr s).bind fun (e, fr', s') =>
      match e with
      | .normal => runCode P call n b fr' s'
      | e => some (e, fr', s')
    | .cond c a b => bif okOp c then
        match fr.op c with
        | .bool true => runCode P call n a fr s
        | .bool false => runCode P call n b fr s
        | _ => none
      else none
    | .block id b => (runCode P call n b fr s).bind fun (e, fr', s') =>
      match e with
      | .exit id' => bif Nat.beq id' id then some (.normal, fr', s') else some (.exit id', fr', s')
      | e => some (e, fr', s')
    | .loop b => (runCode P call n b fr s).bind fun (e, fr', s') =>
      match e with
      | .normal => runCode P call n (.loop b) fr' s'
      | e => some (e, fr', s')
    | .exit id => some (.exit id, fr, s)
    | .goto l => some (.goto l, fr, s)
    | .scope b => (runCode P call n b fr s).bind fun (e, fr', s') =>
      match e with
      | .goto l => none
      | e => some (e, fr', s')
    | .ret => some (.ret, fr, s)
    | _ => none
def fillFr : List Value → Nat → T Value → Option (T Value)
  | [], _, t => some t
  | v :: l, i, t => (T.set 30 t i (some v)).bind fun t => fillFr l (i + 1) t
def resA (P : Program) (fr : Fr) (s : S) : List ResultVar → Option (List Value)
  | [] => some []
  | .tmp t :: l => (resA P fr s l).bind fun r => some (fr.at t :: r)
  | .cell a t :: l => (loadA P s t (fr.at a)).bind fun v => (resA P fr s l).bind fun r => some (v :: r)
def one1 : List Value → Value
  | [v] => v
  | l => .tuple ⟨l⟩
def runCall (P : Program) (sum : FuncId → Option Caller) : Nat → Caller
  | 0, _, _, _ => none
  | n + 1, f, args, s =>
    match sum f with
    | some g => g f args s
    | none =>
      (nth P.funcs.toList f).bind fun fn =>
        match fn.body with
        | none => none
        | some c => (fN fn.ntmps).bind fun k => (fillFr args 0 .nil).bind fun t =>
          bif Nat.ble args.length k then
            (runCode P (runCall P sum n) n c ⟨t, k⟩ s).bind fun (e, fr, s') =>
              match e with
              | .normal | .ret => (resA P fr s' fn.results.toList).bind fun r => some (.ret (one1 r) s')
              | .pan v => some (.pan v s')
              | _ => none
          else none
end Go.Rx
