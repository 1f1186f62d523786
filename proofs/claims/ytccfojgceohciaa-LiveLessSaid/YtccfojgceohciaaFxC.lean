/- An executor of loaded Go code over abstract values: regions, code, calls. -/
import Derived.Test.YtccfojgceohciaaFxB
namespace Go.Fx
open Go

def Tree.map {α β : Type} (f : α → β) (t : Tree α) : Tree β := t.bind fun a => .ret (f a)

def insBlks : Nat → List Blk → Heap → Heap
  | _, [], h => h
  | b, x :: l, h => insBlks (b + 1) l (h.ins b x)

def memNat : Nat → List Nat → Bool
  | _, [] => false
  | n, m :: l => Nat.beq n m || memNat n l

/-! ### operations that change what is there -/
def allOne : List AV → Bool
  | [] => true
  | a :: l => a.oneCell && allOne l
def upd (r : RTy) (xs : List r.carrier) (i : Int) (x : r.carrier) : List r.carrier := xs.set i.toNat x
def storeX (P : Program) (t : TypeId) (a v : AV) (h : Heap) : Tree Heap :=
  match szOf P t with
  | none => .fail
  | some n =>
    if v.cells.length = n ∧ allOne v.cells = true then
      match a with
      | .ptr b off =>
        match h.get b with
        | some (.cells cs) => if off + n ≤ cs.length then .ret (h.put b (.cells (overlay cs off v.cells))) else .fail
        | _ => .fail
      | .rptr b r i off =>
        match h.get b with
        | some (.rows r' e xs) =>
          if off + n ≤ r'.size ∧ r' = r then
            match r'.dec (overlay (r'.enc (rd r' xs i)) off v.cells) with
            | some x => .asrt (0 ≤ i ∧ i < xs.length) (.ret (h.put b (.rows r' e (upd r' xs i x))))
            | none => .fail
          else .fail
        | _ => .fail
      | _ => .fail
    else .fail
def lput (es : List (AV × AV)) (k : Int) (v : AV) : Option (List (AV × AV)) :=
  match es with
  | [] => some [(.lit .i64 k, v)]
  | (.lit kk j, x) :: es => if j = k then none else (match lput es k v with | some l => some ((.lit kk j, x) :: l) | none => none)
  | _ :: _ => none
def mapUpdX (P : Program) (t : TypeId) (m k v : AV) (h : Heap) : Tree Heap :=
  match P.underlying t, m, k.num with
  | some (.map kt _), .map b, some (l, .i64, i) =>
    match P.underlying kt with
    | some (.int .i64) =>
      (match h.get b with
      | some (.imap r es) => match r.dec v.cells with
        | some y => if allOne v.cells = true ∧ v.aggQ = r.isAgg then .ret (h.put b (.imap r (mput es i y))) else .fail
        | none => .fail
      | some (.lmap es) => match l, lput es i v with
        | true, some es' => if v.oneCell = true then .ret (h.put b (.lmap es')) else .fail
        | _, _ => .fail
      | _ => .fail)
    | _ => .fail
  | _, _, _ => .fail
def delX (P : Program) (t : TypeId) (m k : AV) (h : Heap) : Tree Heap :=
  match P.underlying t, m, k.num with
  | some (.map kt _), .map b, some (_, .i64, i) =>
    match P.underlying kt with
    | some (.int .i64) =>
      (match h.get b with
      | some (.imap r es) => .ret (h.put b (.imap r (mdel es i)))
      | _ => .fail)
    | _ => .fail
  | _, _, _ => .fail
/-- The rows that are appended. -/
def srcRows (look : Nat → Option Blk) (r : RTy) : AV → Option (List r.carrier)
  | .own b => match look b with | some (.rows r' _ xs) => castL r r' xs | _ => none
  | .slc b off n sz => match look b with
    | some (.cells cs) => if r.size = sz ∧ off + n * sz ≤ cs.length then decRows r n ((cs.drop off).take (n * sz)) else none
    | _ => none
  | v => v.asView r
def sameBlk (b : Nat) : AV → Bool
  | .own b' => Nat.beq b b'
  | .slc b' _ _ _ => Nat.beq b b'
  | _ => false
/-- What an append comes to: the block that it uses up, and the new one. -/
def appendX (C : Cfg) (t t2 : TypeId) (s x : AV) (lookS look : Nat → Option Blk) : Tree (Option Nat × Blk) :=
  match C.P.underlying t with
  | some (.slice e) =>
    if t = t2 then
    match C.rty e, C.P.info? e, zeroAV C.P e with
    | some r, some inf, some z =>
      if inf.size = r.size ∧ z.cells.length = r.size ∧ 0 < r.size ∧ 0 < inf.bytes then
        match srcRows look r x with
        | none => .fail
        | some ys =>
          match s with
          | .nils => .asrt (([] ++ ys).length * inf.bytes ≤ 140737488355328) (.ret (none, .rows r e ([] ++ ys)))
          | .own b =>
            match lookS b with
            | some (.rows r' e' xs) =>
              match castL r r' xs with
              | some xs => if e' = e ∧ sameBlk b x = false then .asrt ((xs ++ ys).length * inf.bytes ≤ 140737488355328) (.ret (some b, .rows r e (xs ++ ys))) else .fail
              | none => .fail
            | _ => .fail
          | .slc b off n sz =>
            match lookS b with
            | some (.cells cs) =>
              if off = 0 ∧ sz = r.size ∧ n * sz = cs.length ∧ 0 < n then
                match decRows r n cs with
                | some xs => .asrt (ys ≠ [] ∧ (xs ++ ys).length * inf.bytes ≤ 140737488355328) (.ret (none, .rows r e (xs ++ ys)))
                | none => .fail
              else .fail
            | _ => .fail
          | _ => .fail
      else .fail
    | _, _, _ => .fail
    else .fail
  | _ => .fail
def delOpt (h : Heap) : Option Nat → Heap
  | some b => h.del b
  | none => h

def resultAV (P : Program) (look : Nat → Option Blk) (ts : List AV) : List ResultVar → Option (List AV)
  | [] => some []
  | .tmp t :: l => match resultAV P look ts l with | some vs => some (nth ts t :: vs) | none => none
  | .cell a t :: l =>
    match loadV P look t (nth ts a), resultAV P look ts l with
    | .ret v, some vs => some (v :: vs)
    | _, _ => none
def oneOrTup : List AV → AV
  | [v] => v
  | vs => .tup vs

abbrev Run := Nat → Code → St → Tree (Ex × St)

/-- A call that is walked into. -/
def inlineX (C : Cfg) (self : Run) (g : Nat) (args : List AV) (h : Heap) (next : Nat) : Tree (AV × Heap × Nat) :=
  match C.P.funcs[g]? with
  | none => .fail
  | some fn =>
    match fn.body with
    | none => .fail
    | some body =>
      if fn.name == "runtime.NumGoroutine" then .fail else
      (self g body { tmps := args ++ List.replicate (fn.ntmps - args.length) .any, heap := h, next := next }).bind fun r =>
        match r.1 with
        | .normal | .ret =>
          match resultAV C.P r.2.heap.get r.2.tmps fn.results.toList with
          | some vs => .ret (oneOrTup vs, r.2.heap, r.2.next)
          | none => .fail
        | _ => .fail

/-- Whether an operation changes what is there, or is walked into. -/
def effOp (C : Cfg) (o : Oper) (ρ : Operand → AV) : Bool :=
  match o.op with
  | .store _ _ _ | .mapUpdate _ _ _ _ | .insert _ _ _ _ => true
  | .call c =>
    match c.callee with
    | .builtin .append => true
    | .builtin .delete => true
    | .builtin _ => false
    | _ => match callTo C.P ρ c with
      | some (g, _) => (findPcon C.pcon g).isNone && (findCon C.con g).isNone
      | none => true
  | _ => false
def effR (C : Cfg) (self : Run) (o : Oper) (ρ : Operand → AV) (h : Heap) (next : Nat) : Tree (AV × Heap × Nat) :=
  let u (t : Tree Heap) : Tree (AV × Heap × Nat) := t.bind fun h' => .ret (.any, h', next)
  match o.op with
  | .store t a x => u (storeX C.P t (ρ a) (ρ x) h)
  | .mapUpdate t m k x => u (mapUpdX C.P t (ρ m) (ρ k) (ρ x) h)
  | .insert t m k x => u (mapUpdX C.P t (ρ m) (ρ k) (ρ x) h)
  | .call c =>
    match c.callee with
    | .builtin .append =>
      match c.args.toList, c.argTypes.toList with
      | [s, x], [t, t2] => (appendX C t t2 (ρ s) (ρ x) h.get h.get).bind fun r => .ret (.own next, (delOpt h r.1).ins next r.2, next + 1)
      | _, _ => .fail
    | .builtin .delete =>
      match c.args.toList, c.argTypes.toList with
      | [m, k], t :: _ => u (delX C.P t (ρ m) (ρ k) h)
      | _, _ => .fail
    | .builtin _ => .fail
    | _ =>
      match callTo C.P ρ c with
      | some (g, args) => inlineX C self g args h next
      | none => .fail
  | _ => .fail
def resR (C : Cfg) (o : Oper) (ρ : Operand → AV) (h : Heap) (next : Nat) : Tree (AV × Heap × Nat) :=
  (resD C next o ρ h.get).bind fun r => .ret (r.1, insBlks next r.2 h, next + r.2.length)

/-! ### one operation, under its guard -/
/-- Is an operation the guard of another one? -/
def isGuard (ops : Array Oper) (i : Nat) : Bool := ops.any fun o => match o.guard with | some (j, _) => Nat.beq i j | none => false
/-- The slot's new value: known, on either way, where others hang on it. -/
def putG (g : Bool) (dst : Option Nat) (r : AV × Heap × Nat) (ts : List AV) : Tree St :=
  match g, r.1 with
  | true, .bool b => .ite b (.ret { tmps := putT dst (.blit true) ts, heap := r.2.1, next := r.2.2 }) (.ret { tmps := putT dst (.blit false) ts, heap := r.2.1, next := r.2.2 })
  | _, v => .ret { tmps := putT dst v ts, heap := r.2.1, next := r.2.2 }
/-- Is it carried out? -/
def wantedV (ops : Array Oper) (o : Oper) (ts : List AV) : Option Bool :=
  match o.guard with
  | none => some true
  | some (j, want) =>
    match ops[j]? with
    | none => none
    | some oj =>
      match oj.dst with
      | none => none
      | some d =>
        match nth ts d with
        | .blit b => some (match want, b with | true, true => true | false, false => true | _, _ => false)
        | .tup [] => some false
        | _ => none
def stepW (ops : Array Oper) (i : Nat) (o : Oper) (σ : St) (t : Tree (AV × Heap × Nat)) : Tree St :=
  match wantedV ops o σ.tmps with
  | none => .fail
  | some false => .ret { σ with tmps := putT o.dst (.tup []) σ.tmps }
  | some true => t.bind fun r => putG (isGuard ops i) o.dst r σ.tmps
def stepX (C : Cfg) (self : Run) (ops : Array Oper) (i : Nat) (o : Oper) (σ : St) : Tree St :=
  stepW ops i o σ (if effOp C o (evO σ.tmps) then effR C self o (evO σ.tmps) σ.heap σ.next else resR C o (evO σ.tmps) σ.heap σ.next)
def runOps (C : Cfg) (self : Run) (ops : Array Oper) : Nat → List Oper → St → Tree St
  | _, [], σ => .ret σ
  | i, o :: l, σ => (stepX C self ops i o σ).bind (runOps C self ops (i + 1) l)

/-! ### a region whose order is drawn -/
def tmpsIn (o : Oper) : List Nat := o.op.operands.toList.filterMap fun | .tmp t => some t | _ => none
def guardSlot (ops : Array Oper) (o : Oper) : List Nat :=
  match o.guard with
  | some (j, _) => (match ops[j]? with | some oj => oj.dst.toList | none => [])
  | none => []
/-- b does not name what a writes. -/
def apart1 (ops : Array Oper) (a b : Oper) : Bool :=
  match a.dst with
  | none => true
  | some d => !(memNat d (tmpsIn b)) && !(memNat d (guardSlot ops b)) && (match b.dst with | some d' => !(Nat.beq d d') | none => true)
def apartT (ops : Array Oper) (x y : Oper) : Bool := apart1 ops x y && apart1 ops y x
/-- Whom an operation stands behind, as bits. -/
def maskStep (acc : List Nat) (o : Oper) : Nat :=
  o.after.toList.foldl (fun s e => if Region.binds .any e then (s ||| 2 ^ e.on) ||| acc.getD e.on 0 else s) 0
def masks (ops : List Oper) : List Nat := ops.foldl (fun acc o => acc ++ [maskStep acc o]) []
/-- An operation that looks at slots alone. -/
def slotOp (o : Oper) : Bool :=
  match o.op with
  | .move _ | .assign _ | .pick _ _ _ | .nilCheck _ | .binOp _ _ _ _ _ | .unOp _ _ _ | .makeInterface _ _ | .makeFunc _ _ _
  | .fieldAddr _ _ _ | .field _ _ _ | .index _ _ _ | .slice _ _ _ _ _ | .extract _ _ | .typeAssert _ _ _ _ | .build _ _ => true
  | .call c => (match c.callee with | .builtin .min => true | .builtin .max => true | _ => false)
  | _ => false
def storeOp (o : Oper) : Bool :=
  match o.op with
  | .store _ _ _ => true
  | .call c => (match c.callee with | .builtin .append => true | _ => false)
  | _ => false
/-- Does an operation stand ahead of, or behind, each one that looks into memory? -/
def fullAt (ops : List Oper) (ms : List Nat) (i : Nat) : Bool :=
  (List.range ops.length).all fun k => Nat.beq k i || (ms.getD i 0).testBit k || (ms.getD k 0).testBit i || (match ops[k]? with | some o => slotOp o | none => true)
/-- Edges go back; what is in no order is apart; two stores that are not full are in an order. -/
def drawOk (ops : Array Oper) (ms : List Nat) : Bool :=
  Region.noSelect ops &&
  ((List.range ops.size).all fun j => match ops[j]? with
    | some o => (o.after.toList.all fun e => !Region.binds .any e || decide (e.on < j)) && (match o.guard with | some (g, _) => (ms.getD j 0).testBit g | none => true)
    | none => false) &&
  (List.range ops.size).all fun j => (List.range j).all fun i =>
    (ms.getD j 0).testBit i || (match ops[i]?, ops[j]? with
      | some x, some y => apartT ops x y && !(storeOp x && storeOp y)
      | _, _ => false)
/-- The block in which an address lies that is reckoned inside the region. -/
def rootOf (ops : List Oper) (next : Nat) (ts : List AV) : Nat → Operand → List Nat
  | 0, _ => []
  | n + 1, .tmp t =>
    match ops.zipIdx.find? (fun p => match p.1.dst with | some d => Nat.beq d t | none => false) with
    | some (o, i) => match o.op with
      | .move x => rootOf ops next ts n x
      | .nilCheck x => rootOf ops next ts n x
      | .fieldAddr _ x _ => rootOf ops next ts n x
      | .alloc _ => [next + 8 * i]
      | .call c => (match c.callee with | .builtin .append => [next + 8 * i] | _ => [])
      | _ => []
    | none => match nth ts t with | .ptr b _ => [b] | .own b => [b] | _ => []
  | _, _ => []
def freeBlks (ops : List Oper) (ms : List Nat) (next : Nat) (ts : List AV) : List Nat :=
  ops.zipIdx.flatMap fun p =>
    if fullAt ops ms p.2 then [] else
    match p.1.op with
    | .store _ a _ => rootOf ops next ts 8 a
    | .call c => (match c.callee, c.args[0]? with | .builtin .append, some a => rootOf ops next ts 8 a | _, _ => [])
    | _ => []
/-- The blocks that the operation at a place may look into. -/
def allowed (mask next id : Nat) : Bool := Nat.blt id next || mask.testBit ((id - next) / 8)
def seen (X : List Nat) (mask next : Nat) (h : Heap) (id : Nat) : Option Blk := if allowed mask next id && !(memNat id X) then h.get id else none
def ascH : Nat → Heap → Bool
  | _, [] => true
  | n, (b, _) :: h => Nat.ble n b && ascH b h
/-- A call of a function that has a contract, or is to be walked into. -/
def isConCall (o : Oper) : Bool :=
  match o.op with
  | .call c => (match c.callee with | .builtin _ => false | _ => true)
  | _ => false
def drawR (C : Cfg) (self : Run) (ops : Array Oper) (X : List Nat) (ms : List Nat) (next i : Nat) (o : Oper) (ρ : Operand → AV) (h : Heap) (n : Nat) : Tree (AV × Heap × Nat) :=
  if effOp C o ρ then
    if fullAt ops.toList ms i then effR C self o ρ h n
    else match o.op with
      | .store t a x =>
        (match ρ a with
        | .ptr b off => if memNat b X && allowed (ms.getD i 0) next b then (storeX C.P t (.ptr b off) (ρ x) h).bind fun h => .ret (.any, h, n) else .fail
        | _ => .fail)
      | .call c =>
        (match c.callee, c.args.toList, c.argTypes.toList with
        | .builtin .append, [s, x], [t, t2] =>
          (appendX C t t2 (ρ s) (ρ x) (fun id => if allowed (ms.getD i 0) next id then h.get id else none) (seen X (ms.getD i 0) next h)).bind fun r =>
            match r.1 with
            | some b => if memNat b X && ascH 0 h then .ret (.own (next + 8 * i), (h.del b).ins (next + 8 * i) r.2, n) else .fail
            | none => .ret (.own (next + 8 * i), h.ins (next + 8 * i) r.2, n)
        | _, _, _ => .fail)
      | _ => .fail
  else if isConCall o && fullAt ops.toList ms i then resR C o ρ h n
  else (resD C (next + 8 * i) o ρ (seen X (ms.getD i 0) next h)).bind fun r =>
    if r.2.length ≤ 8 then .ret (r.1, insBlks (next + 8 * i) r.2 h, n) else .fail
def drawStep (C : Cfg) (self : Run) (ops : Array Oper) (X : List Nat) (ms : List Nat) (next i : Nat) (σ : St) : Tree St :=
  match ops[i]? with
  | some o => stepW ops i o σ (drawR C self ops X ms next i o (evO σ.tmps) σ.heap σ.next)
  | none => .fail
def drawOps (C : Cfg) (self : Run) (ops : Array Oper) (X : List Nat) (ms : List Nat) (next : Nat) : List Nat → St → Tree St
  | [], σ => .ret σ
  | i :: l, σ => (drawStep C self ops X ms next i σ).bind (drawOps C self ops X ms next l)

def regionX (C : Cfg) (self : Run) (ops : Array Oper) (draw : Bool) (σ : St) : Tree St :=
  match draw with
  | false => runOps C self ops 0 ops.toList σ
  | true =>
    let ms := masks ops.toList
    if drawOk ops ms then
      drawOps C self ops (freeBlks ops.toList ms σ.next σ.tmps) ms σ.next (List.range ops.size) { σ with next := σ.next + 8 * ops.size }
    else .fail

/-! ### which ways are joined -/
def neutralOp (C : Cfg) (o : Oper) : Bool :=
  match o.op with
  | .move _ | .assign _ | .pick _ _ _ | .nilCheck _ | .binOp _ _ _ _ _ | .unOp _ _ _ | .convert _ _ _ | .makeInterface _ _ | .makeFunc _ _ _
  | .fieldAddr _ _ _ | .field _ _ _ | .load _ _ | .indexAddr _ _ _ | .index _ _ _ | .slice _ _ _ _ _ | .lookup _ _ _ _ | .extract _ _ | .typeAssert _ _ _ _ | .build _ _ => true
  | .call c =>
    match c.callee with
    | .builtin .len => true
    | .builtin .min => true
    | .builtin .max => true
    | .value (.func f) => memNat f C.quiet
    | _ => false
  | _ => false
def neutralCode (C : Cfg) : Code → Bool
  | .skip => true
  | .region _ ops _ => ops.toList.all (neutralOp C)
  | .seq a b => neutralCode C a && neutralCode C b
  | .cond _ a b => neutralCode C a && neutralCode C b
  | _ => false
def dstsOf (ops : List Oper) : List Nat := ops.filterMap (·.dst)
def condSlot : Operand → List Nat
  | .tmp t => [t]
  | _ => []
def writesOf : Code → List Nat
  | .region _ ops _ => dstsOf ops.toList
  | .seq a b => writesOf a ++ writesOf b
  | .cond c a b => condSlot c ++ (writesOf a ++ writesOf b)
  | _ => []
def bumpOf : Code → Nat
  | .region _ ops draw => if draw then 8 * ops.size else 0
  | .seq a b => bumpOf a + bumpOf b
  | .cond _ a b => bumpOf a + bumpOf b
  | _ => 0
/-- The conditions, and the slots, at the end of all ways. -/
def collapse (ts0 : List AV) : Tree (List AV) → List Prop × List AV
  | .ret l => ([], l)
  | .fail => ([False], ts0)
  | .asrt p t => let r := collapse ts0 t; (p :: r.1, r.2)
  | .ite c t e =>
    let r := collapse ts0 t
    let s := collapse ts0 e
    ((r.1.map fun p => (c = true → p)) ++ (s.1.map fun p => (c = false → p)), List.zipWith (joinAny c) r.2 s.2)
def mergeT (ds : List Nat) : Nat → List AV → List AV → List AV
  | _, [], _ => []
  | _, a :: l, [] => a :: l
  | i, a :: l, b :: m => (if memNat i ds then b else a) :: mergeT ds (i + 1) l m
def asrts {α : Type} : List Prop → Tree α → Tree α
  | [], t => t
  | p :: l, t => .asrt p (asrts l t)
def Tree.plain {α : Type} : Tree α → Bool
  | .ret _ => true
  | .fail => true
  | .asrt _ t => t.plain
  | .ite _ _ _ => false
def joinSt (c : Code) (σ : St) (t : Tree (Ex × St)) : Tree (Ex × St) :=
  if t.plain then t else
  let r := collapse σ.tmps (t.bind fun r => .ret r.2.tmps)
  asrts r.1 (.ret (.normal, { tmps := mergeT (writesOf c) 0 σ.tmps r.2, heap := σ.heap, next := σ.next + bumpOf c }))
def joinIf (C : Cfg) (c : Code) (σ : St) (t : Tree (Ex × St)) : Tree (Ex × St) := if neutralCode C c then joinSt c σ t else t

/-! ### code -/
def firstRegion : Code → Nat
  | .region id _ _ => id
  | .seq a _ => firstRegion a
  | .block _ a => firstRegion a
  | .loop a => firstRegion a
  | .scope a => firstRegion a
  | _ => 0
def setCond (c : Operand) (b : Bool) (ts : List AV) : List AV := match c with | .tmp t => setNth ts t (.blit b) | _ => ts

def execF (C : Cfg) (self : Run) (f : Nat) (c : Code) (σ : St) : Tree (Ex × St) :=
  match c with
  | .skip => .ret (.normal, σ)
  | .region _ ops draw => joinIf C c σ ((regionX C self ops draw σ).bind fun σ => .ret (.normal, σ))
  | .seq a b => (self f a σ).bind fun r => match r.1 with | .normal => self f b r.2 | e => .ret (e, r.2)
  | .cond x a b =>
    match evO σ.tmps x with
    | .blit true => self f a σ
    | .blit false => self f b σ
    | .bool y => joinIf C c σ (.ite y (self f a { σ with tmps := setCond x true σ.tmps }) (self f b { σ with tmps := setCond x false σ.tmps }))
    | _ => .fail
  | .block id body => (self f body σ).bind fun r => match r.1 with | .exit i => (if i = id then .ret (.normal, r.2) else .ret r) | _ => .ret r
  | .loop body =>
    match findLoop C.loops f (firstRegion body) with
    | some L => L σ
    | none => (self f body σ).bind fun r => match r.1 with | .normal => self f (.loop body) r.2 | e => .ret (e, r.2)
  | .exit id => .ret (.exit id, σ)
  | .ret => .ret (.ret, σ)
  | _ => .fail
def exec (C : Cfg) (n : Nat) : Run :=
  Nat.rec (fun _ _ _ => .fail) (fun _ ih => execF C ih) n

/-! ### what a result leads to -/
mutual
def AV.ids : AV → List Nat
  | .ptr b _ => [b]
  | .rptr b _ _ _ => [b]
  | .own b => [b]
  | .slc b _ _ _ => [b]
  | .map b => [b]
  | .pv cs => AV.idsL cs
  | .lv _ cs => AV.idsL cs
  | .fn _ a b => AV.idsL a ++ AV.idsL b
  | .iface _ v => v.ids
  | .agg cs => AV.idsL cs
  | .tup cs => AV.idsL cs
  | _ => []
def AV.idsL : List AV → List Nat
  | [] => []
  | a :: l => a.ids ++ AV.idsL l
end
def idsBlk : Blk → List Nat
  | .cells cs => AV.idsL cs
  | .rows _ _ _ => []
  | .imap _ _ => []
  | .lmap es => AV.idsL (es.map (·.2))
def Heap.keep (ids : List Nat) : Heap → Heap
  | [] => []
  | (b, x) :: h => if memNat b ids then (b, x) :: Heap.keep ids h else Heap.keep ids h
def idsHeap : Heap → List Nat
  | [] => []
  | (_, x) :: h => idsBlk x ++ idsHeap h
/-- The blocks that are reached from some in so many steps. -/
def gcH : Nat → List Nat → Heap → Heap
  | 0, ids, h => h.keep ids
  | n + 1, ids, h => gcH n (ids ++ idsHeap (h.keep ids)) h

/-- What a call of a function comes to, from the arguments alone. -/
def callF (C : Cfg) (n g : Nat) (args : List AV) : Tree (AV × Heap) :=
  (inlineX C (exec C n) g args [] 0).bind fun r => .ret (r.1, gcH 3 r.1.ids r.2.1)

end Go.Fx
