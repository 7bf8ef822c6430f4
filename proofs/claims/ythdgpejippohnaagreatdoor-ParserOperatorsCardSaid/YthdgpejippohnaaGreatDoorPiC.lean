/-
  From the loaded code to the evaluator's code, and what the evaluator's state says of memory. No condition.
-/
import Derived.Test.YthdgpejippohnaaGreatDoorPiB
namespace Go.Proofs.YthdgpejippohnaaGreatDoor
namespace Pi
set_option linter.unusedVariables false

/-! ### the compiler -/
def const1 : Value → Option PV
  | .int k n => some (.d (.int k n))
  | .bool b => some (.d (.bool b))
  | .string s => some (.d (.str s.data.toList))
  | .slice none 0 0 => some (.full [])
  | .pointer none => some .nilp
  | .nilFunc => some .nilf
  | .nilIface => some .nili
  | .map none => some .nilm
  | _ => none
def const1s : List Value → Option (List PV)
  | [] => some []
  | v :: r => match const1 v, const1s r with | some p, some ps => some (p :: ps) | _, _ => none
def constI : Value → Option PV
  | .agg cs => (const1s cs.toList).map .agg
  | v => const1 v
def opndI : Operand → Option Opnd
  | .tmp t => some (.t t)
  | .const v => (constI v).map .c
  | .func f => some (.c (.clo f [] []))
  | .global _ => none
def opndsI : List Operand → Option (List Opnd)
  | [] => some []
  | x :: r => match opndI x, opndsI r with | some p, some ps => some (p :: ps) | _, _ => none
def optI : Option Operand → Option (Option Opnd)
  | none => some none
  | some l => (opndI l).map some
section
variable (P : Program)
def szOf (t : TypeId) : Option Nat := (P.info? t).map (·.size)
def isAggT (t : TypeId) : Option Bool :=
  match P.underlying t with
  | some (.struct _) => some true
  | some (.array _ _) => some true
  | some _ => some false
  | none => none
def lszOf (t : TypeId) : Option (Option Nat) :=
  match isAggT P t with
  | some true => (szOf P t).map some
  | some false => some none
  | none => none
def zeroI (t : TypeId) : Option (List PV) :=
  match P.info? t with
  | some i => match i.zero with
    | some z => const1s z.cells.toList
    | none => none
  | none => none
def partsI (place : Nat → Option (Nat × Nat)) : List (Nat × Operand) → Option (List (Nat × Nat × Opnd))
  | [] => some []
  | (i, x) :: r =>
    match place i, opndI x, partsI place r with
    | some (off, sz), some p, some ps => some ((off, sz, p) :: ps)
    | _, _, _ => none
def idxI : List (Nat × Operand) → Option (List (Nat × Opnd))
  | [] => some []
  | (i, x) :: r =>
    match opndI x, idxI r with
    | some p, some ps => some ((i, p) :: ps)
    | _, _ => none
def scalarT (t : TypeId) : Bool :=
  match P.underlying t with
  | some .string => true
  | some .bool => true
  | some (.int _) => true
  | _ => false
def keyT (t : TypeId) : Option KeyK :=
  match P.underlying t with
  | some .string => some .str
  | some .bool => some .bool
  | some (.int _) => some .int
  | _ => none
def zeroV (t : TypeId) : Option PV :=
  match P.info? t with
  | some i => match i.zero with
    | some z => constI z
    | none => none
  | none => none
def eqT (t : TypeId) : EqT :=
  match P.underlying t with
  | some .bool => .scalar
  | some (.pointer te) => if (P.info? te).isSome then .ptr else .no
  | some (.func _ _ _) => .func
  | some (.interface _) => .iface
  | _ => .no
def isConstO : Operand → Bool
  | .const _ => true
  | _ => false
/-- With the literal nil. -/
def eqTC (t : TypeId) (x y : Operand) : EqT :=
  match eqT P t with
  | .iface => if (isConstO x || isConstO y) = true then .ifc else .iface
  | e => e
/-- The types of one variable of which a variable of type u lies at the begin; with their cells. -/
def liesL (u : TypeId) : List (TypeId × Nat) :=
  (List.range P.types.size).filterMap fun ty => if 0 < P.cellsOf ty && liesAt P P.depth ty 1 0 u 1 then some (ty, P.cellsOf ty) else none
def compOp0 (o : Oper) : Option IOp :=
  match o.op with
  | .move x => (opndI x).map .mov
  | .assign x => (opndI x).map .mov
  | .pick c a b => match opndI c, opndI a, opndI b with | some c, some a, some b => some (.pick c a b) | _, _, _ => none
  | .alloc e => (zeroI P e).map (.alloc e)
  | .box e x => (opndI x).map (.box e)
  | .nilCheck x => (opndI x).map .chk
  | .build t parts =>
    match P.underlying t with
    | some (.struct fields) => match fields.toList.all (fun f => (szOf P f.type).isSome), zeroI P t, partsI (fun i => match fields[i]? with | some f => (szOf P f.type).map fun s => (f.offset, s) | none => none) parts.toList with
      | true, some zs, some ps => some (.build zs ps)
      | _, _, _ => none
    | some (.array _ e) => match (szOf P e).isSome, zeroI P t, partsI (fun i => (szOf P e).map fun s => (i * s, s)) parts.toList with
      | true, some zs, some ps => some (.build zs ps)
      | _, _, _ => none
    | _ => none
  | .buildSlice t len parts =>
    match P.underlying t with
    | some (.slice e) => match zeroI P e, szOf P e with
      | some zs, some s =>
        match toDs [] zs, idxI parts.toList with
        | some zd, some ps => if zd.length = s ∧ 0 < s ∧ len * s ≤ 2 ^ 24 then some (.lit len zd ps) else none
        | _, _ => none
      | _, _ => none
    | _ => none
  | .load t a => match lszOf P t, opndI a with | some s, some a => some (.load s a) | _, _ => none
  | .store t a x => match szOf P t, opndI a, opndI x with | some s, some a, some x => some (.store s a x) | _, _, _ => none
  | .binOp op t x y _ =>
    match opndI x, opndI y with
    | some x', some y' =>
      match op with
      | .eql => (match P.underlying t with | some (.int _) => some (.bin .eql x' y') | some .string => some (.bin .eql x' y') | _ => some (.eq false (eqTC P t x y) x' y'))
      | .neq => (match P.underlying t with | some (.int _) => some (.bin .neq x' y') | some .string => some (.bin .neq x' y') | _ => some (.eq true (eqTC P t x y) x' y'))
      | op => some (.bin op x' y')
    | _, _ => none
  | .unOp op _ x => (opndI x).map (.un op)
  | .convert s t x =>
    match P.underlying s, P.underlying t, opndI x with
    | some (.int _), some (.int k), some x => some (.convI k x)
    | some .string, some .string, some x => some (.convSS x)
    | some (.pointer te), some .unsafePointer, some x => (match P.info? te with | some j => if j.size = 0 then none else some (.cvp x) | none => none)
    | some .unsafePointer, some (.pointer u), some x => (match P.info? u with | some _ => some (.cvu (liesL P u) x) | none => none)
    | some (.slice e), some .string, some x => (match P.underlying e with | some (.int .u8) => some (.convBS x) | _ => none)
    | some .string, some (.slice e), some x => (match P.underlying e with | some (.int .u8) => some (.convSB x) | _ => none)
    | _, _, _ => none
  | .makeInterface t x => match P.underlying t, opndI x with
    | some (.interface _), _ => none
    | some _, some x => some (.mki t x)
    | _, _ => none
  | .makeFunc (.func f) first caps => match opndsI first.toList, opndsI caps.toList with | some a, some b => some (.mkf f a b) | _, _ => none
  | .makeMap _ none => some .mkm
  | .makeSlice t n m =>
    match P.underlying t, opndI n, opndI m with
    | some (.slice e), some n, some m => (match zeroI P e, szOf P e, P.info? e with
      | some zs, some s, some i => (match toDs [] zs with
        | some zd => if zd.length = s ∧ 0 < s ∧ i.size = s ∧ i.bytes ≤ 1024 then some (.mks e zd n m) else none
        | none => none)
      | _, _, _ => none)
    | _, _, _ => none
  | .slice t x lo hi none =>
    match opndI x, optI lo, optI hi with
    | some x, some lo, some hi =>
      (match P.underlying t with
      | some .string => some (.sslc x lo hi)
      | some (.slice e) => (szOf P e).map fun s => .slc s x lo hi
      | _ => none)
    | _, _, _ => none
  | .fieldAddr s x f =>
    match P.underlying s with
    | some (.struct fields) => match fields[f]?, opndI x with
      | some fd, some x => (match szOf P fd.type with | some (n + 1) => some (.faddr fd.offset x) | _ => none)
      | _, _ => none
    | _ => none
  | .field s x f =>
    match P.underlying s with
    | some (.struct fields) => match fields[f]?, opndI x with
      | some fd, some x => (lszOf P fd.type).map fun sz => .fld fd.offset sz x
      | _, _ => none
    | _ => none
  | .indexAddr t x i =>
    match P.underlying t, opndI x, opndI i with
    | some (.slice e), some x, some i => (szOf P e).map fun s => .iaddr s x i
    | some (.array len e), some x, some i => (szOf P e).map fun s => .aaddr len s x i
    | _, _, _ => none
  | .index t x i =>
    match P.underlying t, opndI x, opndI i with
    | some .string, some x, some i => some (.sidx x i)
    | some (.array len e), some x, some i => (match isAggT P e, szOf P e with | some ag, some s => some (.aidx len s ag x i) | _, _ => none)
    | _, _, _ => none
  | .lookup t m k ok =>
    match P.underlying t with
    | some (.map kt et) => match keyT P kt, zeroV P et, opndI m, opndI k with
      | some kk, some d, some m, some k => some (.look kk d ok m k)
      | _, _, _, _ => none
    | _ => none
  | .mapUpdate t m k v =>
    match P.underlying t with
    | some (.map kt _) => match keyT P kt, opndI m, opndI k, opndI v with | some kk, some m, some k, some v => some (.upd kk m k v) | _, _, _, _ => none
    | _ => none
  | .insert t m k v =>
    match P.underlying t with
    | some (.map kt _) => match keyT P kt, opndI m, opndI k, opndI v with | some kk, some m, some k, some v => some (.upd kk m k v) | _, _, _, _ => none
    | _ => none
  | .extract x i => (opndI x).map fun x => .ext x i
  | .typeAssert x _ t ok =>
    match P.underlying t, zeroV P t, opndI x with
    | some (.interface _), _, _ => none
    | some _, some d, some x => some (.tas t d ok x)
    | _, _, _ => none
  | .panic x => (opndI x).map .pan
  | .call c =>
    match c.callee with
    | .value (.func f) => (match P.funcs[f]? with
      | some fn => if fn.body.isNone then (opndsI c.args.toList).map (.callx f) else (opndsI c.args.toList).map (.call f)
      | none => none)
    | .value x => (match opndI x, opndsI c.args.toList with | some x, some a => some (.callv x a) | _, _ => none)
    | .builtin .len => (match c.argTypes[0]? with
      | some t => (match P.underlying t, opndsI c.args.toList with
        | some .string, some [x] => some (.len 0 x)
        | some (.slice _), some [x] => some (.len 1 x)
        | some (.map _ _), some [x] => some (.len 2 x)
        | _, _ => none)
      | none => none)
    | .builtin .append => (match c.argTypes.toList, opndsI c.args.toList with
      | [t, u], some [s, x] => if t = u then (match P.underlying t with
          | some (.slice e) => (match P.info? e with
            | some i => (match i.zero with
              | some z => if z.cells.size = i.size ∧ 0 < i.size ∧ i.bytes ≤ 1024 then some (.app e i.size s x) else none
              | none => none)
            | none => none)
          | _ => none)
        else (match P.underlying t, P.underlying u with
          | some (.slice e), some .string => (match P.info? e with
            | some i => (match i.zero with
              | some z => if z.cells.size = i.size ∧ i.size = 1 ∧ i.bytes ≤ 1024 then some (.apps e s x) else none
              | none => none)
            | none => none)
          | _, _ => none)
      | _, _ => none)
    | .builtin .max => (opndsI c.args.toList).map .mx
    | .builtin .min => (opndsI c.args.toList).map .mn
    | .builtin .panic => (match opndsI c.args.toList with | some [x] => some (.pan x) | _ => none)
    | _ => none
  | _ => none
/-- What lacks is an operation that has no result. -/
def compOp (o : Oper) : Option IOp :=
  match compOp0 P o with
  | some io => some io
  | none => some .nope
def compOps (ops : Array Oper) : List Oper → Option (List OpI)
  | [] => some []
  | o :: r =>
    match compOp P o, compOps ops r with
    | some op, some os =>
      (match o.guard with
      | none => some ({ dst := o.dst, guard := none, op := op } :: os)
      | some (j, want) => (match (ops[j]?).bind (·.dst) with
        | some t => some ({ dst := o.dst, guard := some (t, want), op := op } :: os)
        | none => none))
    | _, _ => none
def opndT : Opnd → List Nat
  | .t i => [i]
  | .c _ => []
def opndsT (l : List Opnd) : List Nat := l.flatMap opndT
def IOp.reads : IOp → List Nat
  | .mov x | .convSB x | .tas _ _ _ x | .box _ x | .chk x | .cvp x | .cvu _ x | .load _ x | .un _ x | .faddr _ x | .fld _ _ x | .convI _ x | .convSS x | .convBS x | .ext x _ | .mki _ x | .len _ x | .pan x => opndT x
  | .pick a b c | .upd _ a b c => opndsT [a, b, c]
  | .alloc _ _ | .mkm | .nope | .allocAt _ _ _ => []
  | .build _ ps => ps.flatMap fun p => opndT p.2.2
  | .lit _ _ ps => ps.flatMap fun p => opndT p.2
  | .store _ a x | .bin _ a x | .eq _ _ a x | .iaddr _ a x | .aaddr _ _ a x | .sidx a x | .aidx _ _ _ a x | .app _ _ a x | .apps _ a x | .look _ _ _ a x | .mks _ _ a x => opndsT [a, x]
  | .sslc x lo hi | .slc _ x lo hi => opndT x ++ opndsT lo.toList ++ opndsT hi.toList
  | .mkf _ a b => opndsT a ++ opndsT b
  | .call _ a | .callx _ a | .mx a | .mn a => opndsT a
  | .callv f a => opndT f ++ opndsT a
/-- Does it turn objects? -/
def IOp.eff : IOp → Bool
  | .alloc _ _ | .allocAt _ _ _ | .box _ _ | .cvp _ | .cvu _ _ | .store _ _ _ | .call _ _ | .callx _ _ | .callv _ _ | .app _ _ _ _ | .apps _ _ _ | .pan _ | .mkm | .mks _ _ _ _ | .upd _ _ _ _ => true
  | _ => false
/-- Does it turn one object alone, that was there? -/
def IOp.free : IOp → Bool
  | .alloc _ _ | .allocAt _ _ _ | .store _ _ _ => true
  | _ => false
/-- Does it look into objects? -/
def IOp.looks : IOp → Bool
  | .load _ _ | .len 2 _ | .look _ _ _ _ _ | .convBS _ => true
  | .lit _ zs _ => zs.any D.isRow
  | _ => false
def OpI.reads (o : OpI) : List Nat := o.op.reads ++ (match o.guard with | some (t, _) => [t] | none => [])
/-- Two operations of which the first must stay ahead of the second. -/
def clash (a b : OpI) : Bool :=
  (a.op.eff && !a.op.free && (b.op.eff && !b.op.free)) ||
  (match a.dst with | some d => b.reads.contains d || b.dst == some d | none => false) ||
  (match b.dst with | some d => a.reads.contains d | none => false)
def predsOf (o : Oper) : List Nat := (o.after.toList.filter fun e => Region.binds .any e).map (·.on)
/-- All that must go ahead of each operation. -/
def befsOf : List Oper → List (List Nat) → List (List Nat)
  | [], acc => acc
  | o :: r, acc => befsOf r (acc ++ [(predsOf o ++ (predsOf o).flatMap fun j => acc.getD j []).eraseDups])
def isBef (bs : List (List Nat)) (i j : Nat) : Bool := (bs.getD j []).contains i
def pairsOf (n : Nat) : List (Nat × Nat) := (List.range n).flatMap fun j => (List.range j).map fun i => (i, j)
def IOp.isAl : IOp → Bool
  | .alloc _ _ => true
  | _ => false
/-- Whoever may run ahead of the operation k or behind it is a new variable, or has no object to turn. -/
def mayPan (bs : List (List Nat)) (ios : List OpI) (k : Nat) : Bool := (List.range ios.length).all fun e =>
  e == k || (if e < k then isBef bs e k || !((ios.getD e default).op.eff && (ios.getD e default).op.free) || (ios.getD e default).op.isAl
    else isBef bs k e || ((ios.getD e default).op.isAl && (ios.getD e default).guard.isNone))
/-- The pairs (touches, turns) that no edge orders; none where the order of others is open. -/
def drawC (l : List Oper) (ios : List OpI) : Option (List (Nat × Nat)) :=
  let bs := befsOf l []
  if (l.zipIdx.all fun (o, i) => (predsOf o).all (· < i)) && (pairsOf ios.length).all (fun (i, j) => isBef bs i j || !clash (ios.getD i default) (ios.getD j default)) then
    some (((pairsOf ios.length).flatMap fun (i, j) =>
      if isBef bs i j then [] else
      (if ((ios.getD i default).op.looks || (ios.getD i default).op.eff) && (ios.getD j default).op.eff then [(i, j)] else []) ++
      (if ((ios.getD j default).op.looks || (ios.getD j default).op.eff) && (ios.getD i default).op.eff then [(j, i)] else [])) ++
      ((List.range ios.length).filter (mayPan bs ios)).map fun k => (ios.length + k, ios.length + k))
  else none
/-- The evaluator's code of a loaded code (the lists at loops are empty yet). -/
def compC : Code → Option IC
  | .skip => some .skip
  | .region _ ops false => (match compOps P ops ops.toList with | some ios => some (.reg ios) | none => some .bad)
  | .region _ ops true =>
    match compOps P ops ops.toList with
    | some ios => if P.follows .mixedOrders then (match drawC ops.toList ios with | some ap => some (.regd ios ap) | none => some .bad) else some .bad
    | none => some .bad
  | .seq a b => match compC a, compC b with | some a, some b => some (.seq a b) | _, _ => none
  | .cond c a b => match opndI c, compC a, compC b with | some c, some a, some b => some (.cond c a b) | _, _, _ => some .bad
  | .block id b => (compC b).map (.block id)
  | .loop b => (compC b).map (.loop [])
  | .exit id => some (.exit id)
  | .ret => some .ret
  | .refuse _ => some .bad
  | .rangeFunc gg ps as bd => match opndI gg, compC as, compC bd with | some x, some a, some b => some (.rf [] x ps.toList a b) | _, _, _ => some .bad
  | _ => some .bad
def compRes : List ResultVar → Option (List ResI)
  | [] => some []
  | .tmp t :: r => (compRes r).map (.tmp t :: ·)
  | .cell a t :: r => match lszOf P t, compRes r with | some s, some rs => some (.cell a s :: rs) | _, _ => none
end
/-! ### which temporaries a loop's head needs -/
def dedup : List Nat → List Nat
  | [] => []
  | i :: r => if r.contains i then dedup r else i :: dedup r
def liveOps : List OpI → List Nat → List Nat
  | [], out => out
  | o :: r, out =>
    let l := liveOps r out
    let l := match o.guard, o.dst with | none, some d => l.filter (· != d) | _, _ => l
    dedup (o.op.reads ++ (match o.guard with | some (t, _) => [t] | none => []) ++ l)
def liveC : IC → List Nat → List (Nat × List Nat) → List Nat → List Nat
  | .skip, out, _, _ => out
  | .reg ops, out, _, _ => liveOps ops out
  | .regd ops _, out, _, _ => liveOps ops out
  | .seq a b, out, ex, rt => liveC a (liveC b out ex rt) ex rt
  | .cond c a b, out, ex, rt => dedup (opndT c ++ liveC a out ex rt ++ liveC b out ex rt)
  | .block id b, out, ex, rt => liveC b out ((id, out) :: ex) rt
  | .loop _ b, _, ex, rt => let l1 := liveC b [] ex rt; let l2 := liveC b l1 ex rt; liveC b l2 ex rt
  | .exit id, _, ex, _ => (ex.lookup id).getD []
  | .ret, _, _, rt => rt
  | .bad, _, _, _ => []
  | .rf _ gg _ a b, out, ex, rt => dedup (opndT gg ++ out ++ ex.flatMap (·.2) ++ rt ++ liveC a (liveC b [] [] []) [] [])
def annot : IC → List Nat → List (Nat × List Nat) → List Nat → IC
  | .seq a b, out, ex, rt => .seq (annot a (liveC b out ex rt) ex rt) (annot b out ex rt)
  | .cond c a b, out, ex, rt => .cond c (annot a out ex rt) (annot b out ex rt)
  | .block id b, out, ex, rt => .block id (annot b out ((id, out) :: ex) rt)
  | .loop k b, out, ex, rt => let l := liveC (.loop k b) out ex rt; .loop l (annot b l ex rt)
  | .rf _ gg ps a b, _, _, _ => .rf (liveC a (liveC b [] [] []) [] []) gg ps (annot a (liveC b [] [] []) [] []) (annot b [] [] [])
  | c, _, _, _ => c
def resT : List ResI → List Nat
  | [] => []
  | .tmp t :: r => t :: resT r
  | .cell t _ :: r => t :: resT r
/-- A region that ends with a deferred call. -/
def deferAt (P : Program) : Code → Option (List OpI × Opnd × List Opnd)
  | .region _ ops false =>
    match ops.toList.reverse with
    | o :: r =>
      (match o.op, o.guard, o.dst with
      | .defer c, none, none => (match c.callee with
        | .value x => (match compOps P ops r.reverse, opndI x, opndsI c.args.toList with
          | some ios, some g, some args => some (ios, g, args)
          | _, _, _ => none)
        | _ => none)
      | _, _, _ => none)
    | [] => none
  | _ => none
def compB (P : Program) : Code → Option IB
  | .seq a b =>
    match deferAt P a with
    | some (ios, g, args) => (match compC P b with | some c => some (.dfr ios g args c) | none => none)
    | none => (match compB P b with
      | some (.plain _) => (match compC P (.seq a b) with | some c => some (.plain c) | none => none)
      | some r => (match compC P a with | some x => some (.seq x r) | none => none)
      | none => none)
  | c => (match compC P c with | some x => some (.plain x) | none => none)
def liveB (rt : List Nat) : IB → List Nat
  | .plain c => liveC c rt [] rt
  | .seq c r => liveC c (liveB rt r) [] rt
  | .dfr ios g args rest => liveOps ios (dedup (opndT g ++ opndsT args ++ liveC rest rt [] rt))
def annotB (rt : List Nat) : IB → IB
  | .plain c => .plain (annot c rt [] rt)
  | .seq c r => .seq (annot c (liveB rt r) [] rt) (annotB rt r)
  | .dfr ios g args rest => .dfr ios g args (annot rest rt [] rt)
def compF (P : Program) (f : FuncId) : Option FnI :=
  match P.funcs[f]? with
  | some fn => match fn.body with
    | some c => match compB P c, compRes P fn.results.toList with
      | some b, some rs => some { np := fn.params.size + fn.nfree, nt := fn.ntmps, res := rs, body := annotB (resT rs) b }
      | _, _ => none
    | none => none
  | none => none
def movsC : List Oper → Option (List (Option Nat × Opnd))
  | [] => some []
  | o :: r => match o.op, o.guard, movsC r with
    | .move x, none, some ms => (match opndI x with | some y => some ((o.dst, y) :: ms) | none => none)
    | .assign x, none, some ms => (match opndI x with | some y => some ((o.dst, y) :: ms) | none => none)
    | _, _, _ => none
/-- A function without results that begins with a recover. -/
def compD (P : Program) (f : FuncId) : Option FnD :=
  match P.funcs[f]? with
  | some fn => match fn.body with
    | some (.seq (.region _ ops false) rest) =>
      (match ops.toList, fn.results.toList, compC P rest with
      | o :: r, [], some c =>
        (match o.op, o.guard with
        | .call ⟨.builtin .recover, args, _⟩, none => (match args.toList, movsC r with
          | [], some ms => some { np := fn.params.size + fn.nfree, nt := fn.ntmps, dst := o.dst, movs := ms, body := annot c [] [] [] }
          | _, _ => none)
        | _, _ => none)
      | _, _, _ => none)
    | _ => none
  | none => none

/-- The same code, but for the lists at loops. -/
inductive Like : IC → IC → Prop
  | skip : Like .skip .skip
  | reg (ops) : Like (.reg ops) (.reg ops)
  | regd (ops l) : Like (.regd ops l) (.regd ops l)
  | seq {a b a' b'} : Like a a' → Like b b' → Like (.seq a b) (.seq a' b')
  | cond {c a b a' b'} : Like a a' → Like b b' → Like (.cond c a b) (.cond c a' b')
  | block {id b b'} : Like b b' → Like (.block id b) (.block id b')
  | loop {k k' b b'} : Like b b' → Like (.loop k b) (.loop k' b')
  | exit {id} : Like (.exit id) (.exit id)
  | ret : Like .ret .ret
  | bad : Like .bad .bad
  | rf {k k' gg ps a b a' b'} : Like a a' → Like b b' → Like (.rf k gg ps a b) (.rf k' gg ps a' b')
theorem like_annot : ∀ (c : IC) (out : List Nat) (ex : List (Nat × List Nat)) (rt : List Nat), Like c (annot c out ex rt)
  | .skip, _, _, _ => .skip
  | .reg _, _, _, _ => .reg _
  | .regd _ _, _, _, _ => .regd _ _
  | .seq a b, _, _, _ => .seq (like_annot a _ _ _) (like_annot b _ _ _)
  | .cond _ a b, _, _, _ => .cond (like_annot a _ _ _) (like_annot b _ _ _)
  | .block _ b, _, _, _ => .block (like_annot b _ _ _)
  | .loop _ b, _, _, _ => .loop (like_annot b _ _ _)
  | .exit _, _, _, _ => .exit
  | .ret, _, _, _ => .ret
  | .bad, _, _, _ => .bad
  | .rf _ _ _ a b, _, _, _ => .rf (like_annot a _ _ _) (like_annot b _ _ _)

inductive LikeB : IB → IB → Prop
  | plain {c c'} : Like c c' → LikeB (.plain c) (.plain c')
  | seq {c c' r r'} : Like c c' → LikeB r r' → LikeB (.seq c r) (.seq c' r')
  | dfr {ios g args c c'} : Like c c' → LikeB (.dfr ios g args c) (.dfr ios g args c')
theorem like_annotB (rt : List Nat) : ∀ b : IB, LikeB b (annotB rt b)
  | .plain c => .plain (like_annot c _ _ _)
  | .seq c r => .seq (like_annot c _ _ _) (like_annotB rt r)
  | .dfr _ _ _ c => .dfr (like_annot c _ _ _)

/-! ### what the evaluator's state says of memory -/
def blk : Value → Option Nat
  | .pointer (some a) => some a.block
  | .slice (some a) _ _ => some a.block
  | .map (some r) => some r
  | .func (.yield l) _ _ => some l
  | _ => none
def stC : Nat → LoopState
  | 0 => .ready
  | 1 => .busy
  | 2 => .done
  | _ => .exhausted
def jmpC : Option (Option Nat) → Option Code
  | none => none
  | some none => some .ret
  | some (some id) => some (.exit id)
/-- A map's entries. -/
def RepE (w : World) (im : Im) (g : List Value) (objs : Objs) : List (D × PV) → List MapEntry → Prop
  | [], [] => True
  | (k, p) :: r, e :: s => RepD w im k e.key ∧ Rep w im g objs p e.val ∧ RepE w im g objs r s
  | [], _ :: _ => False
  | _ :: _, [] => False
/-- A row that is owned; or one that was read as a string: nothing more is appended (its number is great). -/
def RowOK (w : World) (base : Nat) (e : TypeId) (sz : Nat) (v : Value) (n : Nat) (xs : List Value) : Prop :=
  w.ownsRow base e sz v n xs ∨ (bigLen ≤ n ∧ ∃ q m cap cur fr, v = .slice (some ⟨q, 0, none⟩) m cap ∧ base ≤ q ∧ w.heap[q]? = some (.cells cur e fr))
def ObjOK (P : Program) (base : Nat) (w : World) (im : Im) (g : List Value) (objs : Objs) : AObj → Value → Prop
  | .cells e cs, v => ∃ b cur, v = .pointer (some ⟨b, 0, none⟩) ∧ base ≤ b ∧ w.heap[b]? = some (.cells cur e (0, 0)) ∧ RepL w im g objs cs cur.toList ∧ ∀ u ∈ cur.toList, u.oneCell' = true
  | .buf e n, v => ∃ i xs, P.info? e = some i ∧ 0 < i.size ∧ RowOK w base e i.size v n xs
  | .map es, v => ∃ r ents clock, v = .map (some r) ∧ base ≤ r ∧ w.heap[r]? = some (.map ents clock) ∧ RepE w im g objs es ents.toList
  | .vec e els, v => ∃ i k cap cur, P.info? e = some i ∧ 0 < i.size ∧ v = hdV k cap ∧ base ≤ k ∧ w.heap[k]? = some (.cells cur e (0, 0)) ∧ els.length ≤ cap ∧ cap ≤ maxLen ∧ cur.size = cap * i.size ∧ (∀ el ∈ els, el.length = i.size) ∧ RepL w im g objs (els.flatten.map .d) (cur.toList.take (els.length * i.size))
  | .frz e els, v => ∃ i k cap, P.info? e = some i ∧ v = .agg #[hdV k cap] ∧ RepEls w im els i.size k 0
  | .bld _, _ => False
  | .dead, v => blk v = none
  | .loop st pd env ps as bd, v => ∃ l lr, v = .func (.yield l) #[] #[] ∧ base ≤ l ∧ w.heap[l]? = some (.loop lr) ∧ RepL w im g objs env lr.tmps.toList ∧ lr.state = stC st ∧ lr.pending = jmpC pd ∧ lr.params.toList = ps ∧ (∃ c, compC P lr.assign = some c ∧ Like c as) ∧ ∃ c, compC P lr.body = some c ∧ Like c bd
/-- The library's variable that says how long a string its own search looks for. -/
def maxAt (P : Program) : Option Nat := P.globals.findIdx? (·.name == "internal/bytealg.MaxLen")
def MaxOK (P : Program) (base : Nat) (w : World) : Prop := ∀ q, maxAt P = some q → q < base ∧ ∃ cur e fr m, w.heap[q]? = some (.cells cur e fr) ∧ cur[0]? = some (.int .i64 m)
theorem MaxOK.keep {P : Program} {base : Nat} {w w' : World} (h : MaxOK P base w) (hk : ∀ q, q < base → (∀ D, w.heap[q]? ≠ some (.deferred D)) → w'.heap[q]? = w.heap[q]?) : MaxOK P base w' := by
  intro q hq
  obtain ⟨h1, cur, e, fr, m, h2, h3⟩ := h q hq
  exact ⟨h1, cur, e, fr, m, by rw [hk q h1 (fun D hD => by rw [h2] at hD; cases hD)]; exact h2, h3⟩
structure Sat (P : Program) (base : Nat) (w : World) (im : Im) (g : List Value) (objs : Objs) : Prop where
  len : g.length = objs.length
  low : base ≤ w.heap.size
  glob : MaxOK P base w
  obj : ∀ (i : Nat) o v, objs[i]? = some o → g[i]? = some v → ObjOK P base w im g objs o v
  dist : ∀ (i j : Nat) u v k, g[i]? = some u → g[j]? = some v → blk u = some k → blk v = some k → i = j
  imm : ∀ b o, im b o → b < w.heap.size
  immg : ∀ b o, im b o → ∀ (i : Nat) v, g[i]? = some v → blk v = some b → ∃ e n inf, objs[i]? = some (AObj.buf e n) ∧ P.info? e = some inf ∧ o < n * inf.size
structure Le (w : World) (im : Im) (g : List Value) (objs : Objs) (w' : World) (im' : Im) (g' : List Value) (objs' : Objs) : Prop where
  pres : Pres w im w' im'
  evo : Evo objs g objs' g'
  size : w.heap.size ≤ w'.heap.size
  frame : ∀ k, k < w.heap.size → (∀ (i : Nat) v, g[i]? = some v → blk v ≠ some k) → w'.heap[k]? = w.heap[k]?
  fresh : ∀ (i : Nat) (v : Value) (k : Nat), g'[i]? = some v → blk v = some k → w.heap.size ≤ k ∨ ∃ (j : Nat), ∃ u, g[j]? = some u ∧ blk u = some k
  imn : ∀ b x, im' b x → im b x ∨ w.heap.size ≤ b ∨ ∃ (i : Nat), ∃ v, g[i]? = some v ∧ blk v = some b
  os : w'.os = w.os
  tape : w'.tape = w.tape
  output : w'.output = w.output
theorem Le.refl (w : World) (im : Im) (g : List Value) (objs : Objs) : Le w im g objs w im g objs :=
  ⟨Pres.refl w im, Evo.refl objs g, Nat.le_refl _, fun _ _ _ => rfl, fun i v k h1 h2 => .inr ⟨i, v, h1, h2⟩, fun _ _ h => .inl h, rfl, rfl, rfl⟩
theorem Le.trans {w1 w2 w3 : World} {i1 i2 i3 : Im} {g1 g2 g3 : List Value} {o1 o2 o3 : Objs} (a : Le w1 i1 g1 o1 w2 i2 g2 o2) (b : Le w2 i2 g2 o2 w3 i3 g3 o3) : Le w1 i1 g1 o1 w3 i3 g3 o3 where
  pres := a.pres.trans b.pres
  evo := a.evo.trans b.evo
  size := Nat.le_trans a.size b.size
  frame := fun k hk hn => by
    rw [b.frame k (Nat.lt_of_lt_of_le hk a.size) ?_, a.frame k hk hn]
    intro i v hv he
    rcases a.fresh i v k hv he with h | ⟨j, u, hj, hu⟩
    · omega
    · exact hn j u hj hu
  fresh := fun i v k hv he => by
    rcases b.fresh i v k hv he with h | ⟨j, u, hj, hu⟩
    · exact .inl (Nat.le_trans a.size h)
    · exact a.fresh j u k hj hu
  imn := fun k x h => by
    rcases b.imn k x h with h | h | ⟨j, u, hj, hu⟩
    · exact a.imn k x h
    · exact .inr (.inl (Nat.le_trans a.size h))
    · exact .inr (a.fresh j u k hj hu)
  os := b.os.trans a.os
  tape := b.tape.trans a.tape
  output := b.output.trans a.output
section
variable {P : Program} {base : Nat} {w : World} {im : Im} {g : List Value} {objs : Objs}
theorem Sat.get (h : Sat P base w im g objs) {i : Nat} {o : AObj} (ho : objs[i]? = some o) : ∃ v, g[i]? = some v ∧ ObjOK P base w im g objs o v := by
  have hi : i < g.length := by rw [h.len]; exact (List.getElem?_eq_some_iff.1 ho).1
  exact ⟨g[i], List.getElem?_eq_getElem hi, h.obj i o _ ho (List.getElem?_eq_getElem hi)⟩
theorem Sat.got (h : Sat P base w im g objs) {i : Nat} {v : Value} (hv : g[i]? = some v) : ∃ o, objs[i]? = some o ∧ ObjOK P base w im g objs o v := by
  have hi : i < objs.length := by rw [← h.len]; exact (List.getElem?_eq_some_iff.1 hv).1
  exact ⟨objs[i], List.getElem?_eq_getElem hi, h.obj i _ v (List.getElem?_eq_getElem hi) hv⟩
theorem Sat.nbp (h : Sat P base w im g objs) : ∀ (i : Nat) k, g[i]? = some (Value.pointer (some k)) → ∃ o, objs[i]? = some o ∧ o.isBuf = false := by
  intro i k hg
  obtain ⟨o, ho, hok⟩ := h.got hg
  refine ⟨o, ho, ?_⟩
  cases o <;> try rfl
  all_goals unfold ObjOK at hok
  · obtain ⟨_, _, _, _, hok⟩ := hok
    rcases hok with ⟨_, ⟨hv, _⟩ | ⟨_, _, _, hv, _⟩⟩ | ⟨_, _, _, _, _, _, hv, _⟩ <;> cases hv
  · cases hok
  · obtain ⟨_, _, _, _, _, _, hv, _⟩ := hok
    unfold hdV at hv; cases hv
  · obtain ⟨_, _, _, _, hv, _⟩ := hok
    cases hv
theorem Sat.nbm (h : Sat P base w im g objs) : ∀ (i : Nat) k, g[i]? = some (Value.map (some k)) → ∃ o, objs[i]? = some o ∧ o.isBuf = false := by
  intro i k hg
  obtain ⟨o, ho, hok⟩ := h.got hg
  refine ⟨o, ho, ?_⟩
  cases o <;> try rfl
  all_goals unfold ObjOK at hok
  · obtain ⟨_, _, _, _, hok⟩ := hok
    rcases hok with ⟨_, ⟨hv, _⟩ | ⟨_, _, _, hv, _⟩⟩ | ⟨_, _, _, _, _, _, hv, _⟩ <;> cases hv
  · cases hok
  · obtain ⟨_, _, _, _, _, _, hv, _⟩ := hok
    unfold hdV at hv; cases hv
  · obtain ⟨_, _, _, _, hv, _⟩ := hok
    cases hv
theorem Sat.blk_lt (h : Sat P base w im g objs) {i : Nat} {v : Value} {k : Nat} (hv : g[i]? = some v) (hk : blk v = some k) : base ≤ k ∧ k < w.heap.size := by
  obtain ⟨o, ho, hok⟩ := h.got hv
  cases o <;> unfold ObjOK at hok
  case cells =>
    obtain ⟨b, cur, rfl, hb, hh, _⟩ := hok
    simp only [blk, Option.some.injEq] at hk
    subst hk
    exact ⟨hb, (Array.getElem?_eq_some_iff.1 hh).1⟩
  case buf =>
    obtain ⟨inf, xs, _, _, hown⟩ := hok
    rcases hown with hown | ⟨_, q, m, cap, cur, fr, rfl, hb, hh⟩
    case inr =>
      simp only [blk, Option.some.injEq] at hk
      subst hk
      exact ⟨hb, (Array.getElem?_eq_some_iff.1 hh).1⟩
    have := hown.lt k
    apply this
    rcases hown.2 with ⟨rfl, _⟩ | ⟨_, _, _, rfl, _⟩
    · simp [blk] at hk
    · simpa [blk, Value.ownBlock] using hk
  case map =>
    obtain ⟨r, ents, c, rfl, hb, hh, _⟩ := hok
    simp only [blk, Option.some.injEq] at hk
    subst hk
    exact ⟨hb, (Array.getElem?_eq_some_iff.1 hh).1⟩
  case bld => exact hok.elim
  case dead => rw [hok] at hk; cases hk
  case vec =>
    obtain ⟨_, b, _, cur, _, _, rfl, hb, hh, _⟩ := hok
    simp only [hdV, blk, Option.some.injEq] at hk
    subst hk
    exact ⟨hb, (Array.getElem?_eq_some_iff.1 hh).1⟩
  case frz =>
    obtain ⟨_, _, _, _, rfl, _⟩ := hok
    cases hk
  case loop =>
    obtain ⟨l, lr, rfl, hb, hh, _⟩ := hok
    simp only [blk, Option.some.injEq] at hk
    subst hk
    exact ⟨hb, (Array.getElem?_eq_some_iff.1 hh).1⟩
theorem Sat.nby (h : Sat P base w im g objs) : ∀ (i : Nat) x y z, g[i]? = some (Value.func (.yield x) y z) → ∃ o, objs[i]? = some o ∧ o.isBuf = false := by
  intro i x y z hg
  obtain ⟨o, ho, hok⟩ := h.got hg
  refine ⟨o, ho, ?_⟩
  cases o <;> try rfl
  all_goals unfold ObjOK at hok
  · obtain ⟨_, _, _, _, hok⟩ := hok
    rcases hok with ⟨_, ⟨hv, _⟩ | ⟨_, _, _, hv, _⟩⟩ | ⟨_, _, _, _, _, _, hv, _⟩ <;> cases hv
  · cases hok
  · obtain ⟨_, _, _, _, _, _, hv, _⟩ := hok
    unfold hdV at hv; cases hv
  · obtain ⟨_, _, _, _, hv, _⟩ := hok
    cases hv
theorem Sat.mono (h : Sat P base w im g objs) {w' : World} {im' : Im} {g' : List Value} {objs' : Objs} (hl : Le w im g objs w' im' g' objs') {p : PV} {v : Value} (hr : Rep w im g objs p v) : Rep w' im' g' objs' p v :=
  Rep_mono hl.pres hl.evo h.nbp h.nbm h.nby p v hr
theorem Sat.monoL (h : Sat P base w im g objs) {w' : World} {im' : Im} {g' : List Value} {objs' : Objs} (hl : Le w im g objs w' im' g' objs') {ps : List PV} {vs : List Value} (hr : RepL w im g objs ps vs) : RepL w' im' g' objs' ps vs :=
  RepL_mono hl.pres hl.evo h.nbp h.nbm h.nby ps vs hr
theorem Sat.monoE (h : Sat P base w im g objs) {w' : World} {im' : Im} {g' : List Value} {objs' : Objs} (hl : Le w im g objs w' im' g' objs') : ∀ {es : List (D × PV)} {ents : List MapEntry}, RepE w im g objs es ents → RepE w' im' g' objs' es ents
  | [], [], _ => trivial
  | (k, p) :: r, e :: s, hr => ⟨RepD_mono hl.pres k _ hr.1, h.mono hl hr.2.1, h.monoE hl hr.2.2⟩
  | [], _ :: _, hr => hr.elim
  | _ :: _, [], hr => hr.elim
theorem getD_some {l : List AObj} {i : Nat} {x : AObj} (h : l.getD i .dead = x) (hx : x ≠ .dead) : l[i]? = some x := by
  rw [List.getD_eq_getElem?_getD] at h
  cases hl : l[i]? with
  | none => rw [hl] at h; exact (hx h.symm).elim
  | some y => rw [hl] at h; simp at h; rw [h]
/-- The head that a part of a frozen row was cut from. -/
theorem VRef.at {id ver k : Nat} {Q : Nat → Prop} {o : AObj} {e : TypeId} (h : VRef g objs id ver k Q) (ho : objs[id]? = some o) (ht : o.tag = some (e, ver, true)) : ∃ u cap, g[id]? = some u ∧ isHd u k cap ∧ Q cap := by
  obtain ⟨o', e', m, ho', ht', hv, hq⟩ := h
  rw [ho] at ho'; injection ho' with ho'; subst ho'
  rw [ht] at ht'; injection ht' with ht'; injection ht' with _ ht'; injection ht' with ht' _
  exact hq ht'
theorem isHd_frz {k k' cap cap' : Nat} (h : isHd (.agg #[hdV k cap]) k' cap') : k' = k ∧ cap' = cap := by
  rcases h with h | h
  · exact (agg_ne_hd h).elim
  · injection h with h
    have h : #[hdV k cap] = #[hdV k' cap'] := h
    injection h with h
    injection h with h _
    unfold hdV at h
    injection h with h _ h2
    injection h with h
    injection h with h
    exact ⟨h.symm, h2.symm⟩
theorem isHd_vec {k k' cap cap' : Nat} (h : isHd (hdV k cap) k' cap') : k' = k ∧ cap' = cap := by
  rcases h with h | h
  · unfold hdV at h
    injection h with h _ h2
    injection h with h
    injection h with h
    exact ⟨h.symm, h2.symm⟩
  · exact (agg_ne_hd h.symm).elim
theorem RepEls.drop {els : List (List D)} {sz b q : Nat} (h : RepEls w im els sz b q) (n : Nat) : RepEls w im (els.drop n) sz b (q + n * sz) := by
  rw [RepEls_iff] at h ⊢
  intro j el hj
  rw [List.getElem?_drop] at hj
  have := h (n + j) el hj
  rwa [show q + n * sz + j * sz = q + (n + j) * sz from by rw [Nat.add_mul]; omega]
theorem RepEls.take {els : List (List D)} {sz b q : Nat} (h : RepEls w im els sz b q) (n : Nat) : RepEls w im (els.take n) sz b q := by
  rw [RepEls_iff] at h ⊢
  intro j el hj
  rw [List.getElem?_take] at hj
  split at hj
  · exact h j el hj
  · cases hj
theorem rowAt_rep (hsat : Sat P base w im g objs) {id ver sz lo n : Nat} {els : List (List D)} {v : Value} (hp : rowAt objs id ver sz lo n = some els) (hn : n ≠ 0) (h : Rep w im g objs (.sl id ver sz lo n) v) : RepD w im (.row els) v := by
  unfold rowAt at hp
  split at hp <;> first | (cases hp; done) | skip
  rename_i e els0 hob
  split at hp <;> first | (cases hp; done) | skip
  rename_i hc
  injection hp with hp; subst hp
  obtain ⟨hv, hlo, hd⟩ := hc
  have ho := getD_some hob (by simp)
  unfold Rep at h
  obtain ⟨k, c, rfl, hnc, hr⟩ := h
  obtain ⟨u, cap, hu, hh, _⟩ := hr.at ho (e := e) (by simp [AObj.tag, hv])
  have hok := hsat.obj id _ u ho hu
  unfold ObjOK at hok
  obtain ⟨i, k', cap', hi, rfl, hrow⟩ := hok
  obtain ⟨rfl, rfl⟩ := isHd_frz hh
  have hs : i.size = sz := by
    cases els0 with
    | nil => simp at hlo; omega
    | cons el r =>
      have := (RepEls_at hrow (j := 0) rfl).1
      simp only [hdOk, beq_iff_eq] at hd
      omega
  subst hs
  have hlen : ((els0.drop lo).take n).length = n := by simp; omega
  unfold RepD
  refine .inr ⟨k, lo * i.size, c, i.size, by rw [hlen], by rw [hlen]; exact hnc, ?_⟩
  have := (hrow.drop lo).take n
  rwa [Nat.zero_add] at this
theorem sl_empty {id ver sz lo : Nat} {v : Value} (h : Rep w im g objs (.sl id ver sz lo 0) v) : RepD w im (.row []) v := by
  unfold Rep at h
  obtain ⟨k, c, rfl, _⟩ := h
  exact .inl ⟨rfl, _, _, rfl⟩
theorem toD_rep (hsat : Sat P base w im g objs) {os : Objs} (hos : os = objs ∨ os = []) {p : PV} {x : D} {v : Value} (hp : p.toD os = some x) (h : Rep w im g objs p v) : RepD w im x v := by
  cases p <;> simp only [PV.toD, Option.some.injEq] at hp <;> try contradiction
  case sl id ver sz lo n =>
    split at hp
    · rename_i hn
      subst hn
      injection hp with hp; subst hp
      exact sl_empty h
    · rename_i hn
      obtain ⟨els, he, rfl⟩ := Option.map_eq_some_iff.1 hp
      rcases hos with rfl | rfl
      · exact rowAt_rep hsat he hn h
      · simp [rowAt] at he
  all_goals subst hp
  · exact h
  · unfold Rep at h; exact h.1
  · unfold Rep at h; exact h.1
theorem asRow_rep (hsat : Sat P base w im g objs) {p : PV} {els : List (List D)} {v : Value} (hp : p.asRow objs = some els) (h : Rep w im g objs p v) : RepD w im (.row els) v := by
  unfold PV.asRow at hp
  split at hp
  case h_4 =>
    split at hp
    · rename_i hn
      subst hn
      injection hp with hp; subst hp
      exact sl_empty h
    · rename_i hn
      exact rowAt_rep hsat hp hn h
  all_goals first | (cases hp; done) | (injection hp with hp; subst hp)
  · exact h
  · unfold Rep at h; exact h.1
  · unfold Rep at h; exact h.1
theorem const1_rep {v : Value} {p : PV} (h : const1 v = some p) : Rep w im g objs p v ∧ p.one = true := by
  unfold const1 at h
  split at h <;> first | (injection h with h; subst h) | cases h
  all_goals first
    | exact ⟨rfl, rfl⟩
    | exact ⟨⟨.inl ⟨rfl, none, 0, rfl⟩, none, rfl⟩, rfl⟩
theorem const1s_rep : ∀ {vs : List Value} {ps : List PV}, const1s vs = some ps → RepL w im g objs ps vs ∧ ps.all PV.one = true
  | [], _, h => by unfold const1s at h; injection h with h; subst h; exact ⟨trivial, rfl⟩
  | v :: r, ps, h => by
    unfold const1s at h
    cases h1 : const1 v with
    | none => simp [h1] at h
    | some p => cases h2 : const1s r with
      | none => simp [h1, h2] at h
      | some qs =>
        simp [h1, h2] at h
        subst h
        obtain ⟨a, b⟩ := const1_rep (w := w) (im := im) (g := g) (objs := objs) h1
        obtain ⟨c, d⟩ := const1s_rep h2
        exact ⟨⟨a, c⟩, by simp [b]; simpa using d⟩
theorem constI_rep {v : Value} {p : PV} (h : constI v = some p) : Rep w im g objs p v := by
  unfold constI at h
  split at h
  · rename_i cs
    cases h1 : const1s cs.toList with
    | none => simp [h1] at h
    | some ps =>
      simp [h1] at h
      subst h
      exact ⟨cs.toList, by simp, (const1s_rep h1).1⟩
  · exact (const1_rep h).1
theorem opnd_rep {a : Act} {env : Env} (henv : RepL w im g objs env a.tmps.toList) {x : Operand} {y : Opnd} (h : opndI x = some y) : Rep w im g objs (opnd env y) (a.eval x) := by
  cases x with
  | tmp t =>
    simp only [opndI, Option.some.injEq] at h
    subst h
    simp only [opnd_t, Act.eval]
    have hlen := henv.length
    by_cases ht : t < env.length
    · obtain ⟨v, hv, hr⟩ := henv.get (List.getElem?_eq_getElem ht)
      rw [List.getD_eq_getElem?_getD, List.getElem?_eq_getElem ht]
      have : a.tmps.getD t undef = v := by
        rw [Array.getD_eq_getD_getElem?, ← Array.getElem?_toList, hv]; rfl
      rw [this]
      exact hr
    · rw [List.getD_eq_getElem?_getD, List.getElem?_eq_none (Nat.le_of_not_lt ht)]
      trivial
  | const v =>
    simp only [opndI] at h
    cases h1 : constI v with
    | none => simp [h1] at h
    | some p => simp [h1] at h; subst h; exact constI_rep h1
  | func f =>
    simp only [opndI, Option.some.injEq] at h
    subst h
    exact ⟨[], [], rfl, trivial, trivial⟩
  | global => simp [opndI] at h
theorem opnds_rep {a : Act} {env : Env} (henv : RepL w im g objs env a.tmps.toList) : ∀ {xs : List Operand} {ys : List Opnd}, opndsI xs = some ys → RepL w im g objs (ys.map (opnd env)) (xs.map a.eval)
  | [], _, h => by unfold opndsI at h; injection h with h; subst h; trivial
  | x :: r, ys, h => by
    unfold opndsI at h
    cases h1 : opndI x with
    | none => simp [h1] at h
    | some p => cases h2 : opndsI r with
      | none => simp [h1, h2] at h
      | some qs =>
        simp [h1, h2] at h
        subst h
        exact ⟨opnd_rep henv h1, opnds_rep henv h2⟩
end
end Pi
end Go.Proofs.YthdgpejippohnaaGreatDoor
