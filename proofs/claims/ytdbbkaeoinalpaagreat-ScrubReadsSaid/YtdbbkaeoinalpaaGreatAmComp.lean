/- How the program's functions are read by the abstract machine. -/
import Derived.Test.YtdbbkaeoinalpaaGreatAm
import Derived.Test.YtdbbkaeoinalpaaGreatRegion
namespace Go.Proofs.YtdbbkaeoinalpaaGreat
namespace AM
section
variable (P : Program)

def constOk : Value → Bool
  | .bool _ | .int .. | .float .. | .string _ | .pointer none | .slice none .. | .map none | .nilFunc | .nilIface => true
  | _ => false
def opdOf : Operand → Option Opd
  | .tmp t => some (.t t)
  | .const v => if constOk v then some (.c v) else none
  | .func f => some (.c (.func (.func f) #[] #[]))
  | .global _ => none
def nilOf : NK → Operand → Bool
  | .ptr, .const (.pointer none) | .slice, .const (.slice none ..) | .map, .const (.map none) | .func, .const .nilFunc | .iface, .const .nilIface => true
  | _, _ => false
def nkOf : TypeDesc → Option NK
  | .pointer _ => some .ptr
  | .slice _ => some .slice
  | .map .. => some .map
  | .func .. => some .func
  | .interface _ => some .iface
  | _ => none
def aggT (t : TypeId) : Bool :=
  match P.underlying t with
  | some (.struct _) | some (.array _ _) => true
  | _ => false
def szT (t : TypeId) : Option Nat := match Nat.blt t P.types.size with
  | true => (P.info? t).map (·.size)
  | false => none
def zeroT (t : TypeId) : Option Value := match Nat.blt t P.types.size with
  | true => (P.info? t).bind fun i => i.zero.filter fun z => (cellsOf z).all constOk && (cellsOf z).length == i.size
  | false => none
def bytesT (t : TypeId) : Option Nat := (P.info? t).map (·.bytes)
/-- The cells of a type that has some. -/
def szP (t : TypeId) : Option Nat := (szT P t).filter fun n => n != 0
def intT (t : TypeId) : Bool :=
  match P.underlying t with
  | some (.int _) => true
  | _ => false
def boolT (t : TypeId) : Bool :=
  match P.underlying t with
  | some .bool => true
  | _ => false
def cellT (bl : Bool) (t : TypeId) : Bool := if bl then boolT P t else intT P t
def fieldsB (bl : Bool) : List Field → Nat → Bool
  | [], _ => true
  | f :: fs, i => f.name != "_" && cellT P bl f.type && f.offset == i && fieldsB bl fs (i + 1)
/-- A type of so many ints, or bools. -/
def flatT (bl : Bool) (t : TypeId) : Option Nat :=
  match P.underlying t with
  | some (.struct fs) => if fieldsB P bl fs.toList 0 && !P.stoodInHeld t && !P.eqGuardType P.depth t then some fs.size else none
  | some (.array n e) => if cellT P bl e && szT P e == some 1 && !P.eqGuardType P.depth t then some n else none
  | _ => none
def keyT (t : TypeId) : Option (Option Nat) :=
  if intT P t then some none else match flatT P false t with
    | some n => some (some n)
    | none => none

def placesOf (t : TypeId) (parts : List Nat) : Option (List (Nat × Nat)) :=
  match P.underlying t with
  | some (.struct fs) => parts.mapM fun i => (fs[i]?).bind fun f => (szT P f.type).map fun s => (f.offset, s)
  | some (.array _ e) => (szT P e).map fun s => parts.map fun i => (i * s, s)
  | _ => none

def compAgg (neg : Bool) (t : TypeId) (x y : Operand) : Option (Prim × List Opd) := do
  match flatT P false t with
  | some n => do some (.eqAgg false n neg, [← opdOf x, ← opdOf y])
  | none => match flatT P true t with
    | some n => do some (.eqAgg true n neg, [← opdOf x, ← opdOf y])
    | none => none
def compNil (neg : Bool) (d : TypeDesc) (x y : Operand) : Option (Prim × List Opd) := do
  let k ← nkOf d
  match nilOf k y, nilOf k x with
  | true, false => do some (.isNil k neg, [← opdOf x])
  | false, true => do some (.isNil k neg, [← opdOf y])
  | _, _ => match d with
    | .pointer e => if (szT P e).getD 0 == 0 then none else do some (.eqPtr neg, [← opdOf x, ← opdOf y])
    | _ => none

def compBuiltin (b : Builtin) (args : List Opd) (ts : List TypeId) : Option (Prim × List Opd) :=
  match b, ts with
  | .len, [t] => match P.underlying t with
    | some (.slice _) => some (.lenS, args)
    | some (.map ..) => some (.lenM, args)
    | some (.array n _) => some (.lenC n, args)
    | _ => none
  | .cap, [t] => match P.underlying t with
    | some (.slice _) => some (.cap, args)
    | _ => none
  | .append, [t, u] => match P.underlying t, P.underlying u with
    | some (.slice e), some (.slice _) => do
      let _ ← zeroT P e
      some (.append e (← szP P e) (← bytesT P e), args)
    | some (.slice e), some (.int _) => do some (.appendZ e (← szP P e) (← bytesT P e) (← zeroT P e).cells.toList, args)
    | _, _ => none
  | .copy, [t, u] => match P.underlying t, P.underlying u with
    | some (.slice e), some (.slice _) => do some (.copy (← szP P e), args)
    | _, _ => none
  | .min, [t, _] => if intT P t then some (.min, args) else none
  | .max, [t, _] => if intT P t then some (.max, args) else none
  | .clear, [t] => match P.underlying t with
    | some (.map ..) => some (.clearM, args)
    | some (.slice e) => do
      let _ ← szP P e
      some (.clearS (← zeroT P e).cells.toList, args)
    | _ => none
  | .delete, t :: _ => match P.underlying t with
    | some (.map k _) => do some (.delete (← keyT P k), args)
    | _ => none
  | .recover, _ => some (.recover, args)
  | _, _ => none

def extern (name : String) (args : List Opd) : Option (Prim × List Opd) :=
  if name == "math.Float64bits" then some (.f64bits, args)
  else if name == "math.Float64frombits" then some (.f64from, args)
  else if name == "maps.clone" then some (.mapsClone, args)
  else if ["slices.overlaps[int]", "slices.overlaps[concertina/api.Run]", "slices.overlaps[concertina/api.Place]", "slices.overlaps[concertina/node.Kid]", "slices.overlaps[*concertina/tree.branch]", "internal/bytealg.MakeNoZero"].contains name then some (.overlaps, args)
  else none

def compOp (o : Go.Op) : Option (Prim × List Opd) :=
  match o with
  | .move x | .assign x => do some (.move, [← opdOf x])
  | .pick c a b => do some (.pick, [← opdOf c, ← opdOf a, ← opdOf b])
  | .alloc e => do some (.new e (← szT P e) (← zeroT P e).cells.toList, [])
  | .box e x => do some (.box e (← szT P e), [← opdOf x])
  | .build t ps => do some (.build (← zeroT P t).cells.toList (← placesOf P t (ps.toList.map (·.1))), ← ps.toList.mapM fun p => opdOf p.2)
  | .buildSlice t n ps => match P.underlying t with
    | some (.slice e) => do
      let s ← szT P e
      if n * s > 2 ^ 24 then none
      some (.buildSlice e s n (lrep (← zeroT P e).cells.toList n) (ps.toList.map fun p => (p.1 * s, s)), ← ps.toList.mapM fun p => opdOf p.2)
    | _ => none
  | .load t a => do some (.load (aggT P t) (← szT P t), [← opdOf a])
  | .store t a v => do some (.store (← szT P t), [← opdOf a, ← opdOf v])
  | .nilCheck x => do some (.nilCheck, [← opdOf x])
  | .binOp op t x y _ =>
    match op, P.underlying t with
    | .eql, some (.struct _) | .eql, some (.array _ _) => compAgg P false t x y
    | .neq, some (.struct _) | .neq, some (.array _ _) => compAgg P true t x y
    | _, some (.int _) | _, some (.float _) => do some (.bin op, [← opdOf x, ← opdOf y])
    | .eql, some .string => do some (.eqStr false, [← opdOf x, ← opdOf y])
    | .neq, some .string => do some (.eqStr true, [← opdOf x, ← opdOf y])
    | .eql, some .bool => do some (.eqBool false, [← opdOf x, ← opdOf y])
    | .neq, some .bool => do some (.eqBool true, [← opdOf x, ← opdOf y])
    | .eql, some d => compNil P false d x y
    | .neq, some d => compNil P true d x y
    | _, _ => none
  | .unOp op _ x => do some (.un op, [← opdOf x])
  | .convert s d x => match P.underlying s, P.underlying d with
    | some (.int _), some (.int k) => do some (.toInt k, [← opdOf x])
    | some (.int _), some (.float k) => do some (.toFloat k, [← opdOf x])
    | some (.slice e), some .string => match P.underlying e with
      | some (.int .u8) => do some (.toStr, [← opdOf x])
      | _ => none
    | _, _ => none
  | .makeInterface t x => match P.underlying t with
    | some (.interface _) => none
    | some _ => do some (.iface t, [← opdOf x])
    | none => none
  | .makeFunc (.func f) first cap => do some (.func f first.size, (← first.toList.mapM opdOf) ++ (← cap.toList.mapM opdOf))
  | .makeMap t r => match r with
    | none => some (.newMap, [])
    | some (.const (.int _ _)) => match P.underlying t with
      | some (.map ..) => some (.newMap, [])
      | _ => none
    | _ => none
  | .makeSlice t l c => match P.underlying t with
    | some (.slice e) => do some (.newSlice e (← szT P e) (← bytesT P e) (← zeroT P e).cells.toList, [← opdOf l, ← opdOf c])
    | _ => none
  | .slice t x lo hi mx => match P.underlying t with
    | some (.slice e) => do
      some (.slice (← szP P e) lo.isSome hi.isSome mx.isSome, (← opdOf x) :: ((← lo.toList.mapM opdOf) ++ (← hi.toList.mapM opdOf) ++ (← mx.toList.mapM opdOf)))
    | _ => none
  | .fieldAddr s x i => match P.underlying s with
    | some (.struct fs) => do
      let f ← fs[i]?
      if (← szT P f.type) == 0 then none
      some (.fieldAddr f.offset, [← opdOf x])
    | _ => none
  | .field s x i => match P.underlying s with
    | some (.struct fs) => do
      let f ← fs[i]?
      some (.field f.offset (aggT P f.type) (← szT P f.type), [← opdOf x])
    | _ => none
  | .indexAddr t x i => match P.underlying t with
    | some (.slice e) => do some (.idxAddr (← szT P e), [← opdOf x, ← opdOf i])
    | some (.array n e) => do some (.idxAddrA n (← szT P e), [← opdOf x, ← opdOf i])
    | _ => none
  | .index t x i => match P.underlying t with
    | some (.array n e) => do some (.idx n (← szT P e) (aggT P e), [← opdOf x, ← opdOf i])
    | some .string => do some (.idxStr, [← opdOf x, ← opdOf i])
    | _ => none
  | .lookup t x i ok => match P.underlying t with
    | some (.map k e) => do some (.lookup (← keyT P k) (← zeroT P e) ok, [← opdOf x, ← opdOf i])
    | _ => none
  | .mapUpdate t m k v => match P.underlying t with
    | some (.map kt _) => do some (.mapSet (← keyT P kt), [← opdOf m, ← opdOf k, ← opdOf v])
    | _ => none
  | .typeAssert x _ a ok => match P.underlying a with
    | some (.interface _) => none
    | some _ => do some (.assert a (← zeroT P a) ok, [← opdOf x])
    | none => none
  | .extract t i => do some (.extract i, [← opdOf t])
  | .sliceToArrayPointer d x => match P.underlying d with
    | some (.array n _) => do some (.arrPtr n, [← opdOf x])
    | _ => none
  | .panic x => do some (.panic, [← opdOf x])
  | .call c => do
    let args ← c.args.toList.mapM opdOf
    match c.callee with
    | .builtin b => compBuiltin P b args c.argTypes.toList
    | .invoke r m => do some (.invoke m, (← opdOf r) :: args)
    | .value (.func f) => match P.funcs[f]? with
      | some fn => if fn.body.isSome then some (.call, (.c (.func (.func f) #[] #[])) :: args) else
          extern fn.name args
      | none => none
    | .value x => do some (.call, (← opdOf x) :: args)
  | .defer c => match c.callee with
    | .value x => if c.args.isEmpty then do some (.defer, [← opdOf x]) else none
    | _ => none
  | _ => none

/-- Slots of operands are below a bound. -/
def opdLt : Opd → Bool
  | .t i => Nat.blt i 1000000
  | .c _ => true
def dstLt : Option Nat → Bool
  | some d => Nat.blt d 1000000
  | none => true
def compOper (ops : List Oper) (o : Oper) : Option Op := do
  let (p, args) ← compOp P o.op
  if !(args.all opdLt && dstLt o.dst) then none
  let g ← match o.guard with
    | none => some none
    | some (j, b) => do
      let d ← (ops[j]?).bind (·.dst)
      if dstLt (some d) then some (some (d, b)) else none
  some ⟨o.dst, p, args, g⟩

abbrev Plan := List (List Nat × Option Nat)
def Plan.items : Plan → List (Bool × Nat)
  | [] => []
  | (q, e) :: r => q.map (true, ·) ++ (e.toList.map (false, ·) ++ Plan.items r)
/-- Operations that only make memory of what they are given. -/
def mobile (ops : Array Oper) (i : Nat) : Bool :=
  match ops[i]? with
  | some o => o.guard.isNone && o.dst.isSome && (match o.op with
    | .alloc _ | .box .. | .buildSlice .. => true
    | _ => false)
  | none => false
/-- What stands ahead of an effect in a plan. -/
def befores (j : Nat) : List (Bool × Nat) → List Nat
  | [] => []
  | (b, k) :: l => match !b && Nat.beq k j with
    | true => []
    | false => k :: befores j l
def slots (q : Op) : List Nat := q.args.filterMap (fun | .t i => some i | .c _ => none) ++ (match q.guard with
  | some g => [g.1]
  | none => [])
/-- An operation that may be done ahead of another one. -/
def apartQ (qj qk : Op) : Bool :=
  match qj.dst with
  | none => false
  | some d => !((slots qk).contains d) && (match qk.dst with
    | some d' => !(Nat.beq d' d) && !((slots qj).contains d')
    | none => true)
def one (ops : List Oper) (i : Nat) : Option Op := (ops[i]?).bind (compOper P ops)
def freshQ (qj qk : Op) : Bool :=
  match qk.dst with
  | some d => !((slots qj).contains d) && (match qj.dst with
    | some d' => !(Nat.beq d' d)
    | none => true)
  | none => true
def okEarly (ops : List Oper) (items : List (Bool × Nat)) (j : Nat) : Bool :=
  ((befores j items).all fun k => match one P ops j, one P ops k with
    | some qj, some qk => apartQ qj qk
    | _, _ => false) &&
  items.all fun x => x.1 || Nat.beq x.2 j || (match one P ops j, one P ops x.2 with
    | some qj, some qk => freshQ qj qk
    | _, _ => false)
def onceB : List (Bool × Nat) → Bool
  | [] => true
  | x :: l => !(l.any fun y => Nat.beq y.2 x.2) && onceB l
/-- Whatever order is drawn, it is the plan's but for memory that is made ahead of its turn. -/
def planB (ops : List Oper) : Nat → List (Bool × Nat) → Array Bool → Bool
  | _, [], listed => (Region.ready .any ops.toArray listed).isEmpty
  | 0, _ :: _, _ => false
  | f + 1, (true, i) :: l, listed => (Region.ready .any ops.toArray listed).contains i && Region.free .any ops.toArray listed i && planB ops f l (listed.setIfInBounds i true)
  | f + 1, (false, e) :: l, listed =>
    if listed.getD e false then planB ops f l listed
    else (Region.ready .any ops.toArray listed).contains e && (Region.ready .any ops.toArray listed).all fun j =>
      if j == e then planB ops f l (listed.setIfInBounds e true)
      else mobile ops.toArray j && l.contains (false, j) && okEarly P ops ((false, e) :: l) j && planB ops f ((false, e) :: l) (listed.setIfInBounds j true)
/-- Does k wait for i? -/
def waits (ops : Array Oper) (i k : Nat) : Bool := (ancs .any i ops.toList []).getD k false

def isDefer (p : Prim) : Bool :=
  match p.kind with
  | .defer => true
  | _ => false
def reads (l : List (Nat × Op)) : List (Nat × Nat) := l.filterMap fun x => match readsHeap x.2.p with
  | true => x.2.dst.map (x.1, ·)
  | false => none
def mobs (ops : List Oper) (e : Nat) (items : List (Bool × Nat)) : List Nat :=
  (items.filter fun x => !x.1 && mobile ops.toArray x.2 && !waits ops.toArray e x.2 && okEarly P ops ((false, e) :: items) x.2).map (·.2)
def compSegs (ops : List Oper) : Plan → List (Nat × Nat) → Option (List Seg)
  | [], _ => some []
  | (q, e) :: r, rs => do
    let qs ← q.mapM (one P ops)
    if !(qs.all fun o => quietP o.p && (!readsHeap o.p || o.dst.isSome)) then none
    let rs := reads (q.zip qs) ++ rs
    match e with
    | none => do some (⟨qs, none, [], []⟩ :: (← compSegs ops r rs))
    | some i => do
      let o ← one P ops i
      if isDefer o.p then none
      let rs := rs.filter fun x => !waits ops.toArray x.1 i
      let mob ← (mobs P ops i (Plan.items r)).mapM (one P ops)
      some (⟨qs, some o, rs.map (·.2), mob⟩ :: (← compSegs ops r rs))

def compReg (ops : List Oper) (draw : Bool) (plan : Option Plan) : Option Code :=
  match draw with
  | false => do some (.reg (← ops.mapM (compOper P ops)))
  | true => match plan with
    | none => none
    | some pl =>
      if planB P ops (2 * ops.length) pl.items (Array.replicate ops.length false) && onceB pl.items && Nat.ble pl.items.length ops.length && Region.noSelect ops.toArray then do
        some (.draw (← compSegs P ops pl []) (ops.filterMap (·.dst)))
      else none

def compCode (plan : Nat → Option Plan) : Go.Code → Option Code
  | .skip => some .skip
  | .region id ops draw => compReg P ops.toList draw (plan id)
  | .seq a b => do some (.seq (← compCode plan a) (← compCode plan b))
  | .cond c a b => do some (.cond (← opdOf c) (← compCode plan a) (← compCode plan b))
  | .block id b => do some (.block id (← compCode plan b))
  | .loop b => do some (.loop [] (← compCode plan b))
  | .exit id => some (.exit id)
  | .ret => some .ret
  | _ => none

def compRes : ResultVar → Option RVar
  | .tmp t => some (.tmp t)
  | .cell a t => do some (.cell a (aggT P t) (← szT P t))

/-- A function that begins with 'recover()'. -/
def recoverHead : Go.Code → Option (Nat × Array Oper × List Oper × Go.Code)
  | .seq (.region _ ops false) rest => match ops.toList with
    | { dst := some r, op := .call { callee := .builtin .recover, .. }, guard := none, .. } :: os => some (r, ops, os, rest)
    | _ => none
  | _ => none

def compFunc (plan : Nat → Option Plan) (fn : Go.Func) : Option Func := do
  let c ← fn.body
  let rs ← fn.results.toList.mapM (compRes P)
  match recoverHead c with
  | some (r, ops, os, rest) => do some ⟨.seq (.reg (← os.mapM (compOper P ops.toList))) (← compCode P plan rest), rs, some r⟩
  | none => do some ⟨← compCode P plan c, rs, none⟩
end

/-- The code without what is said of the slots that are kept. -/
def erase : Code → Code
  | .seq (.keep _) b => erase b
  | .seq a (.keep _) => erase a
  | .seq a b => .seq (erase a) (erase b)
  | .cond c a b => .cond c (erase a) (erase b)
  | .block id b => .block id (erase b)
  | .loop _ b => .loop [] (erase b)
  | c => c
def Func.erase (f : Func) : Func := ⟨AM.erase f.body, f.results, f.rcv⟩
/-- Are all slots below a bound? -/
def dstN (N : Nat) : Option Nat → Bool
  | some d => Nat.blt d N
  | none => true
def okN (N : Nat) : Code → Bool
  | .reg ops => ops.all fun q => dstN N q.dst
  | .draw _ dsts => dsts.all fun d => Nat.blt d N && Nat.blt d 1000000
  | .seq a b => okN N a && okN N b
  | .cond c a b => opdLt c && okN N a && okN N b
  | .block _ b => okN N b
  | .loop _ b => okN N b
  | _ => true
def RVar.ok : RVar → Bool
  | .tmp t => Nat.blt t 1000000
  | .cell t _ _ => Nat.blt t 1000000
def Func.okF (N : Nat) (f : Func) : Bool := okN N f.body && f.results.all RVar.ok && dstN N f.rcv && dstLt f.rcv
end AM
end Go.Proofs.YtdbbkaeoinalpaaGreat
