/-
  The pure reading of a loaded program: values without addresses, an evaluator with rounds, and the compiler from the loaded code into its input. Definitions alone; no condition.
-/
import Derived.Calls
import Derived.Below
namespace Go.Proofs.YthdgpejippohnaaGreatDoor
namespace Pi
set_option linter.unusedVariables false

/-- Pure data: one cell each; a row is what a slice reads as: its elements, each with its cells. -/
inductive D where
  | int (k : IntKind) (n : Int)
  | bool (b : Bool)
  | str (s : List UInt8)
  | row (els : List (List D))
  deriving Inhabited

/-- Values of the evaluator. -/
inductive PV where
  | d (x : D)
  | any
  | agg (cs : List PV)
  | tup (vs : List PV)
  | full (els : List (List D))
  | own (els : List (List D)) (b : Nat)
  | box (id off : Nat)
  | elem (cs : List D) (off : Nat)
  | nilp
  | clo (f : FuncId) (first caps : List PV)
  | nilf
  | map (id : Nat)
  | nilm
  | iface (t : TypeId) (v : PV)
  | nili
  | yld (id : Nat)
  /-- n elements of a row that is owned and may be written, from the element lo on; sz cells each; ver: how many elements the row had. -/
  | sl (id ver sz lo n : Nat)
  /-- The address of a cell of an element of such a row. -/
  | ebox (id ver sz j off : Nat)
  deriving Inhabited

/-! ### the evaluator's code -/
inductive Opnd where
  | t (i : Nat)
  | c (v : PV)
  deriving Inhabited

inductive KeyK where
  | int | str | bool
  deriving Inhabited
def KeyK.ok : KeyK → D → Bool
  | .int, .int _ _ => true
  | .str, .str _ => true
  | .bool, .bool _ => true
  | _, _ => false

inductive EqT where
  | scalar | ptr | func | iface | ifc | aggs (n : Nat) | no
  deriving Inhabited

inductive IOp where
  | mov (x : Opnd)
  | pick (c a b : Opnd)
  | alloc (e : TypeId) (zs : List PV)
  | box (e : TypeId) (x : Opnd)
  | build (zs : List PV) (parts : List (Nat × Nat × Opnd))
  | lit (len : Nat) (zs : List D) (parts : List (Nat × Opnd))
  | load (sz : Option Nat) (x : Opnd)
  | store (sz : Nat) (a x : Opnd)
  | bin (op : BinOp) (x y : Opnd)
  | eq (neg : Bool) (t : EqT) (x y : Opnd)
  | un (op : UnOp) (x : Opnd)
  | faddr (off : Nat) (x : Opnd)
  | fld (off : Nat) (sz : Option Nat) (x : Opnd)
  | iaddr (sz : Nat) (x i : Opnd)
  | sidx (x i : Opnd)
  | aidx (len sz : Nat) (ag : Bool) (x i : Opnd)
  | sslc (x : Opnd) (lo hi : Option Opnd)
  | slc (sz : Nat) (x : Opnd) (lo hi : Option Opnd)
  | convI (k : IntKind) (x : Opnd)
  | convSS (x : Opnd)
  | convBS (x : Opnd)
  | ext (x : Opnd) (i : Nat)
  | mkf (f : FuncId) (first caps : List Opnd)
  | mki (t : TypeId) (x : Opnd)
  | call (f : FuncId) (args : List Opnd)
  | callx (f : FuncId) (args : List Opnd)
  | callv (f : Opnd) (args : List Opnd)
  | len (kd : Nat) (x : Opnd)
  | app (e : TypeId) (sz : Nat) (s x : Opnd)
  | apps (e : TypeId) (s x : Opnd)
  | mx (xs : List Opnd)
  | mn (xs : List Opnd)
  | pan (x : Opnd)
  | mkm
  | look (kk : KeyK) (dflt : PV) (ok : Bool) (m k : Opnd)
  | upd (kk : KeyK) (m k v : Opnd)
  | chk (x : Opnd)
  | cvp (x : Opnd)
  | cvu (tys : List (TypeId × Nat)) (x : Opnd)
  | aaddr (len sz : Nat) (x i : Opnd)
  | nope
  /-- The variable of this number (which no other has had) comes to life. -/
  | allocAt (id : Nat) (e : TypeId) (zs : List PV)
  | convSB (x : Opnd)
  | mks (e : TypeId) (zs : List D) (n m : Opnd)
  | tas (t : TypeId) (dflt : PV) (ok : Bool) (x : Opnd)
  deriving Inhabited

structure OpI where
  dst : Option Nat
  guard : Option (Nat × Bool)
  op : IOp
  deriving Inhabited

inductive IC where
  | skip
  | reg (ops : List OpI)
  | regd (ops : List OpI) (apart : List (Nat × Nat))
  | seq (a b : IC)
  | cond (c : Opnd) (a b : IC)
  | block (id : Nat) (b : IC)
  | loop (keep : List Nat) (b : IC)
  | exit (id : Nat)
  | ret
  | bad
  | rf (keep : List Nat) (g : Opnd) (ps : List Nat) (assign body : IC)
  deriving Inhabited

inductive Ex where
  | normal
  | exit (id : Nat)
  | ret
  | panic (v : PV)

inductive ResI where
  | tmp (t : Nat)
  | cell (t : Nat) (sz : Option Nat)
  deriving Inhabited
/-- A function's body; the last form: what is deferred (a function's value, with arguments), and the rest. -/
inductive IB where
  | plain (c : IC)
  | seq (c : IC) (r : IB)
  | dfr (ios : List OpI) (g : Opnd) (args : List Opnd) (rest : IC)
  deriving Inhabited
structure FnI where
  np : Nat
  nt : Nat
  res : List ResI
  body : IB
  deriving Inhabited
/-- A function that is deferred and begins with a recover: where its value goes, moves, the rest. -/
structure FnD where
  np : Nat
  nt : Nat
  dst : Option Nat
  movs : List (Option Nat × Opnd)
  body : IC
  deriving Inhabited

inductive AObj where
  | cells (e : TypeId) (cs : List PV)
  | buf (e : TypeId) (n : Nat)
  | map (es : List (D × PV))
  | bld (s : List UInt8)
  | dead
  | vec (e : TypeId) (els : List (List D))
  | frz (e : TypeId) (els : List (List D))
  | loop (st : Nat) (pd : Option (Option Nat)) (env : List PV) (ps : List Nat) (assign body : IC)
  deriving Inhabited

abbrev Objs := List AObj

inductive Out where
  | ret (v : PV)
  | panic (v : PV)

/-- What is called: a function with a body; one without (the machine's own entry); a range's body. -/
inductive Cal where
  | fn (f : FuncId)
  | ext (f : FuncId)
  | yld
  /-- A deferred function; true: the frame below panics (with the first argument). -/
  | dfn (f : FuncId) (pk : Bool)
abbrev CallF := Cal → List PV → Objs → Option (Out × Objs)

/-! ### object numbers in values -/
def D.isRow : D → Bool
  | .row _ => true
  | _ => false
mutual
def PV.ids : PV → List Nat
  | .agg cs => PVs.ids cs
  | .tup cs => PVs.ids cs
  | .own _ b => [b]
  | .box i _ => [i]
  | .clo _ a b => PVs.ids a ++ PVs.ids b
  | .map i => [i]
  | .iface _ v => v.ids
  | .d _ => []
  | .any => []
  | .full _ => []
  | .elem _ _ => []
  | .nilp => []
  | .nilf => []
  | .nilm => []
  | .nili => []
  | .yld i => [i]
  | .sl i _ _ _ _ => [i]
  | .ebox i _ _ _ _ => [i]
def PVs.ids : List PV → List Nat
  | [] => []
  | p :: r => p.ids ++ PVs.ids r
end
mutual
def PV.ren (f : Nat → Nat) : PV → PV
  | .agg cs => .agg (PVs.ren f cs)
  | .tup cs => .tup (PVs.ren f cs)
  | .own els b => .own els (f b)
  | .box i o => .box (f i) o
  | .clo g a b => .clo g (PVs.ren f a) (PVs.ren f b)
  | .map i => .map (f i)
  | .iface t v => .iface t (v.ren f)
  | .d x => .d x
  | .any => .any
  | .full els => .full els
  | .elem cs o => .elem cs o
  | .nilp => .nilp
  | .nilf => .nilf
  | .nilm => .nilm
  | .nili => .nili
  | .yld i => .yld (f i)
  | .sl i a b c d => .sl (f i) a b c d
  | .ebox i a b c d => .ebox (f i) a b c d
def PVs.ren (f : Nat → Nat) : List PV → List PV
  | [] => []
  | p :: r => p.ren f :: PVs.ren f r
end
def entsIds : List (D × PV) → List Nat
  | [] => []
  | (_, v) :: r => v.ids ++ entsIds r
def entsRen (f : Nat → Nat) : List (D × PV) → List (D × PV)
  | [] => []
  | (k, v) :: r => (k, v.ren f) :: entsRen f r
def AObj.ids : AObj → List Nat
  | .cells _ cs => PVs.ids cs
  | .map es => entsIds es
  | .buf _ _ => []
  | .bld _ => []
  | .dead => []
  | .vec _ _ => []
  | .frz _ _ => []
  | .loop _ _ e _ _ _ => PVs.ids e
def AObj.ren (f : Nat → Nat) : AObj → AObj
  | .cells e cs => .cells e (PVs.ren f cs)
  | .map es => .map (entsRen f es)
  | .buf e n => .buf e n
  | .bld s => .bld s
  | .dead => .dead
  | .vec e els => .vec e els
  | .frz e els => .frz e els
  | .loop st pd e ps a b => .loop st pd (PVs.ren f e) ps a b
def Out.ids : Out → List Nat
  | .ret v => v.ids
  | .panic v => v.ids
def Out.ren (f : Nat → Nat) : Out → Out
  | .ret v => .ret (v.ren f)
  | .panic v => .panic (v.ren f)
def allIds : List AObj → List Nat
  | [] => []
  | o :: r => o.ids ++ allIds r

/-- The objects that numbers lead to, in the order in which they are met. -/
def reach (objs : Objs) : Nat → List Nat → List Nat → List Nat
  | 0, _, seen => seen
  | _ + 1, [], seen => seen
  | n + 1, i :: todo, seen => if seen.contains i then reach objs n todo seen else reach objs n ((objs.getD i .dead).ids ++ todo) (seen ++ [i])
def nodup : List Nat → Bool
  | [] => true
  | i :: r => !r.contains i && nodup r
def reachFuel : Nat := 64

/-! ### one operation -/
noncomputable section
/-- An element of a list, straight by the recursors: the kernel is quicker so. -/
def getR {α : Type} (d : α) (l : List α) : Nat → α := @List.rec α (fun _ => Nat → α) (fun _ => d) (fun x _ ih n => @Nat.rec (fun _ => α) x (fun m _ => ih m) n) l
theorem getR_eq {α : Type} (d : α) : ∀ (l : List α) (n : Nat), getR d l n = l.getD n d
  | [], n => by cases n <;> rfl
  | x :: r, 0 => rfl
  | x :: r, n + 1 => by
    have := getR_eq d r n
    simpa [getR] using this
def setR {α : Type} (l : List α) : Nat → α → List α := @List.rec α (fun _ => Nat → α → List α) (fun _ _ => []) (fun x r ih n v => @Nat.rec (fun _ => List α) (v :: r) (fun m _ => x :: ih m v) n) l
theorem setR_eq {α : Type} : ∀ (l : List α) (n : Nat) (v : α), setR l n v = l.set n v
  | [], n, v => by cases n <;> rfl
  | x :: r, 0, v => rfl
  | x :: r, n + 1, v => by
    have := setR_eq r n v
    simpa [setR] using this
abbrev Env := List PV
def opnd (env : Env) : Opnd → PV
  | .t i => getR .any env i
  | .c v => v
theorem opnd_t (env : Env) (i : Nat) : opnd env (.t i) = env.getD i .any := getR_eq _ _ _
def put (env : Env) (dst : Option Nat) (v : PV) : Env :=
  match dst with
  | some d => setR env d v
  | none => env
theorem put_some (env : Env) (d : Nat) (v : PV) : put env (some d) v = env.set d v := setR_eq _ _ _
/-- The first element has so many cells. -/
def hdOk (sz : Nat) : List (List D) → Bool
  | [] => true
  | el :: _ => el.length == sz
/-- What a part of an owned row reads as: only where it is frozen, and as long as it was. -/
def rowAt (objs : Objs) (id ver sz lo n : Nat) : Option (List (List D)) :=
  match objs.getD id .dead with
  | .frz _ els => if ver = els.length ∧ lo + n ≤ els.length ∧ hdOk sz els = true then some ((els.drop lo).take n) else none
  | _ => none
/-- The row behind a slice's value. -/
def PV.asRow (objs : Objs) : PV → Option (List (List D))
  | .d (.row els) => some els
  | .full els => some els
  | .own els _ => some els
  | .sl id ver sz lo n => if n = 0 then some [] else rowAt objs id ver sz lo n
  | _ => none
def PV.toD (objs : Objs) : PV → Option D
  | .d x => some x
  | .full els => some (.row els)
  | .own els _ => some (.row els)
  | .sl id ver sz lo n => if n = 0 then some (.row []) else (rowAt objs id ver sz lo n).map .row
  | .agg _ | .tup _ | .any | .box _ _ | .elem _ _ | .nilp | .clo _ _ _ | .nilf | .map _ | .nilm | .iface _ _ | .nili | .yld _ | .ebox _ _ _ _ _ => none
/-- A value's cells. -/
def PV.cellsOf : PV → List PV
  | .agg cs => cs
  | p => [p]
/-- One cell each (no struct, no tuple, nothing unknown). -/
def PV.one : PV → Bool
  | .agg _ | .tup _ | .any => false
  | _ => true
def toDs (objs : Objs) : List PV → Option (List D)
  | [] => some []
  | p :: r => match p.toD objs, toDs objs r with | some x, some xs => some (x :: xs) | _, _ => none
/-- Owned rows are frozen: what they hold stays as it is. -/
def frzOne (objs : Objs) (id : Nat) : Objs :=
  match objs.getD id .dead with
  | .vec e els => objs.set id (.frz e els)
  | _ => objs
def frzIds : Objs → List Nat → Objs
  | objs, [] => objs
  | objs, i :: r => frzIds (frzOne objs i) r
/-- A slice's value as data alone. -/
def PV.pur1 (objs : Objs) : PV → PV
  | .own els b => .d (.row els)
  | .full els => .d (.row els)
  | .sl id ver sz lo n => match PV.asRow objs (.sl id ver sz lo n) with | some els => .d (.row els) | none => .sl id ver sz lo n
  | p => p
def PV.pur2 (objs : Objs) : PV → PV
  | .agg cs => .agg (cs.map (PV.pur1 objs))
  | p => p.pur1 objs
def PV.pur (objs : Objs) : PV → PV
  | .tup vs => .tup (vs.map (PV.pur2 objs))
  | p => p.pur2 objs
def Out.pur (objs : Objs) : Out → Out
  | .ret v => .ret (v.pur objs)
  | .panic v => .panic v
/-- Which rows may be written (by the type of their elements); which functions are handed data and hand data back. -/
structure Pol where
  vt : List TypeId
  pf : FuncId → Bool
def Pol.pures (po : Pol) : Cal → Bool
  | .fn f => po.pf f
  | _ => false
def setAt (cs : List PV) (off : Nat) : List PV → List PV
  | [] => cs
  | v :: r => setAt (cs.set off v) (off + 1) r
def fillI (env : Env) (cs : List PV) : List (Nat × Nat × Opnd) → Option (List PV)
  | [] => some cs
  | (off, sz, x) :: r =>
    let vs := (opnd env x).cellsOf
    if vs.length = sz && off + sz ≤ cs.length && vs.all PV.one then fillI env (setAt cs off vs) r else none
def fillD (objs : Objs) (env : Env) (sz : Nat) (els : List (List D)) : List (Nat × Opnd) → Option (List (List D))
  | [] => some els
  | (i, x) :: r =>
    match toDs objs (opnd env x).cellsOf with
    | some vs => if vs.length = sz && i < els.length then fillD objs env sz (els.set i vs) r else none
    | none => none
def binI (op : BinOp) (x y : PV) : Option PV :=
  match x, y with
  | .d (.int k a), .d (.int k' b) =>
    match op with
    | .shl => if 0 ≤ b then some (.d (.int k (k.wrap (a * 2 ^ (min b.toNat k.bits))))) else none
    | .shr => if 0 ≤ b then some (.d (.int k (a.fdiv (2 ^ (min b.toNat k.bits))))) else none
    | _ => if k = k' then
        match op with
        | .add => some (.d (.int k (k.wrap (a + b))))
        | .sub => some (.d (.int k (k.wrap (a - b))))
        | .mul => some (.d (.int k (k.wrap (a * b))))
        | .quo => if b = 0 then none else some (.d (.int k (k.wrap (a.tdiv b))))
        | .rem => if b = 0 then none else some (.d (.int k (a.tmod b)))
        | .and => some (.d (.int k (k.wrap ((BitVec.ofInt k.bits a &&& BitVec.ofInt k.bits b).toNat))))
        | .or => some (.d (.int k (k.wrap ((BitVec.ofInt k.bits a ||| BitVec.ofInt k.bits b).toNat))))
        | .xor => some (.d (.int k (k.wrap ((BitVec.ofInt k.bits a ^^^ BitVec.ofInt k.bits b).toNat))))
        | .andNot => some (.d (.int k (k.wrap ((BitVec.ofInt k.bits a &&& ~~~BitVec.ofInt k.bits b).toNat))))
        | .eql => some (.d (.bool (a == b)))
        | .neq => some (.d (.bool (a != b)))
        | .lss => some (.d (.bool (a < b)))
        | .leq => some (.d (.bool (a ≤ b)))
        | .gtr => some (.d (.bool (a > b)))
        | .geq => some (.d (.bool (a ≥ b)))
        | _ => none
      else none
  | .d (.str a), .d (.str b) =>
    match op with
    | .add => if a.length + b.length < 4611686018427387904 then some (.d (.str (a ++ b))) else none
    | .eql => some (.d (.bool (a == b)))
    | .neq => some (.d (.bool (!(a == b))))
    | .lss => some (.d (.bool (Op.bytesLess a b)))
    | .leq => some (.d (.bool (Op.bytesLess a b || a == b)))
    | .gtr => some (.d (.bool (!(Op.bytesLess a b || a == b))))
    | .geq => some (.d (.bool (!Op.bytesLess a b)))
    | _ => none
  | _, _ => none
def eqD : D → D → Option Bool
  | .int k a, .int k' b => if k = k' then some (a == b) else none
  | .str a, .str b => some (a == b)
  | .bool a, .bool b => some (a == b)
  | _, _ => none
def eqAll : List PV → List PV → Option Bool
  | [], [] => some true
  | .d x :: r, .d y :: s =>
    match eqD x y, eqAll r s with
    | some a, some b => some (a && b)
    | _, _ => none
  | _, _ => none
def eqI (t : EqT) (x y : PV) : Option Bool :=
  match t with
  | .scalar => match x, y with | .d (.bool a), .d (.bool b) => some (a == b) | _, _ => none
  | .ptr => match x, y with
    | .nilp, .nilp => some true
    | .nilp, .box _ _ => some false
    | .box _ _, .nilp => some false
    | .nilp, .elem _ _ => some false
    | .elem _ _, .nilp => some false
    | .box i a, .box j b => if i = j ∧ a = b then some true else none
    | _, _ => none
  | .func => match x, y with
    | .nilf, .nilf => some true
    | .nilf, .clo _ _ _ => some false
    | .clo _ _ _, .nilf => some false
    | _, _ => none
  | .iface => match x, y with
    | .nili, .iface _ _ => some false
    | .iface _ _, .nili => some false
    | _, _ => none
  | .ifc => match x, y with
    | .nili, .nili => some true
    | .nili, .iface _ _ => some false
    | .iface _ _, .nili => some false
    | _, _ => none
  | .aggs n => match x, y with | .agg a, .agg b => if a.length = n && b.length = n then eqAll a b else none | _, _ => none
  | .no => none
def unI (op : UnOp) (x : PV) : Option PV :=
  match op, x with
  | .not, .d (.bool b) => some (.d (.bool !b))
  | .neg, .d (.int k n) => some (.d (.int k (k.wrap (0 - n))))
  | _, _ => none
def maxI : PV → List PV → Option PV
  | .d (.int k x), [] => some (.d (.int k x))
  | .d (.int k x), .d (.int _ y) :: r => maxI (.d (.int k (if y > x then y else x))) r
  | _, _ => none
def minI : PV → List PV → Option PV
  | .d (.int k x), [] => some (.d (.int k x))
  | .d (.int k x), .d (.int _ y) :: r => minI (.d (.int k (if y < x then y else x))) r
  | _, _ => none
def bytesD : List (List D) → Option (List UInt8)
  | [] => some []
  | [.int .u8 n] :: r => match bytesD r with | some l => some (UInt8.ofNat n.toNat :: l) | none => none
  | _ :: _ => none
def bytesOf (s : List UInt8) : List (List D) := s.map fun b => [.int .u8 b.toNat]
def findE (k : D) : List (D × PV) → Option (Option PV)
  | [] => some none
  | (k', v) :: r =>
    match eqD k k' with
    | some true => some (some v)
    | some false => findE k r
    | none => none
def setE (k : D) (v : PV) : List (D × PV) → List (D × PV)
  | [] => [(k, v)]
  | (k', u) :: r => if eqD k k' = some true then (k, v) :: r else (k', u) :: setE k v r
def hiI (n : Nat) : Option PV → Option Nat
  | none => some n
  | some (.d (.int _ x)) => if 0 ≤ x ∧ x ≤ n then some x.toNat else none
  | some _ => none
def loI (h : Nat) : Option PV → Option Nat
  | none => some 0
  | some (.d (.int _ x)) => if 0 ≤ x ∧ x ≤ h then some x.toNat else none
  | some _ => none
/-- 0 ≤ lo ≤ hi ≤ n. -/
def boundsI (n : Nat) (lo hi : Option PV) : Option (Nat × Nat) :=
  match hiI n hi with
  | none => none
  | some h => match loI h lo with
    | none => none
    | some l => some (l, h)
def bigLen : Nat := 4294967296

/-- A call: what its arguments lead to is handed over under new numbers; behind it what is still led to comes back. -/
def doCall1 (call : CallF) (f : Cal) (args : List PV) (objs : Objs) : Option (Out × Objs) :=
  let rs := reach objs reachFuel (PVs.ids args) []
  let into : Nat → Nat := fun i => rs.idxOf i
  let sub := rs.map fun i => (objs.getD i .dead)
  if ((PVs.ids args ++ allIds sub).all fun i => rs.contains i) && nodup rs && rs.all (fun i => i < objs.length) then
    match call f (PVs.ren into args) (sub.map (AObj.ren into)) with
    | none => none
    | some (out, objs1) =>
      let k := rs.length
      let ns := (reach objs1 reachFuel (out.ids ++ allIds (objs1.take k)) []).filter fun i => k ≤ i
      let back : Nat → Nat := fun i => if i < k then rs.getD i 0 else objs.length + ns.idxOf i
      let news := ns.map fun i => objs1.getD i .dead
      if ((out.ids ++ allIds (objs1.take k) ++ allIds news).all fun i => i < k || ns.contains i) && nodup ns && ns.all (fun i => i < objs1.length) then
        some (out.ren back, ((List.range objs.length).map fun i => if rs.contains i then (objs1.getD (rs.idxOf i) .dead).ren back else objs.getD i .dead) ++ news.map (AObj.ren back))
      else none
  else none

/-- A call; of a function that is handed data: what it is handed and hands back is made data. -/
def doCall (po : Pol) (call : CallF) (f : Cal) (args : List PV) (objs : Objs) : Option (Out × Objs) :=
  if po.pures f then
    match doCall1 call f (args.map (PV.pur (frzIds objs (PVs.ids args)))) (frzIds objs (PVs.ids args)) with
    | some (out, objs1) => some (out.pur (frzIds objs1 out.ids), frzIds objs1 out.ids)
    | none => none
  else doCall1 call f args objs

inductive Res where
  | ok (v : PV) (objs : Objs)
  | pan (v : PV) (objs : Objs)

def outToRes (objs : Objs) : Out → Res
  | .ret v => .ok v objs
  | .panic v => .pan v objs
def outRes : Option (Out × Objs) → Option Res
  | some (out, objs) => some (outToRes objs out)
  | none => none

/-- Elements at the end of a row: what it becomes. -/
def appI (vt : List TypeId) (e : TypeId) (sz : Nat) (s : PV) (els' : List (List D)) (objs : Objs) : Option Res :=
  match s with
  | .full els =>
    if els'.isEmpty then some (.ok (.full els) objs)
    else if vt.contains e then (if els.length + els'.length < bigLen && hdOk sz els && hdOk sz els' then some (.ok (.sl objs.length (els.length + els'.length) sz 0 (els.length + els'.length)) (objs ++ [.vec e (els ++ els')])) else none)
    else if els.length + els'.length < bigLen && hdOk sz els && hdOk sz els' then some (.ok (.own (els ++ els') objs.length) (objs ++ [.buf e (els.length + els'.length)])) else none
  | .own els b =>
    match objs.getD b .dead with
    | .buf e' n' => if e' = e && n' = els.length && els.length + els'.length < bigLen && hdOk sz els && hdOk sz els' then some (.ok (.own (els ++ els') b) (objs.set b (.buf e (els.length + els'.length)))) else none
    | _ => none
  | .d (.row els) => if els'.isEmpty then some (.ok (.d (.row els)) objs) else none
  | .sl id ver sz' lo n =>
    match objs.getD id .dead with
    | .vec e' els =>
      if e' = e ∧ ver = els.length ∧ sz' = sz ∧ lo = 0 ∧ n ≤ ver ∧ n + els'.length < bigLen ∧ hdOk sz els' = true then
        if n + els'.length ≤ ver then some (.ok (.sl id ver sz 0 (n + els'.length)) (objs.set id (.vec e (els.take n ++ els' ++ els.drop (n + els'.length)))))
        else some (.ok (.sl id (n + els'.length) sz 0 (n + els'.length)) (objs.set id (.vec e (els.take n ++ els'))))
      else none
    | _ => none
  | _ => none

/-- Cells of an element. -/
def elRead (el : List D) (off : Nat) : Option Nat → Option PV
  | none => match el[off]? with | some v => some (.d v) | none => none
  | some n => if off + n ≤ el.length then some (.agg (((el.drop off).take n).map .d)) else none
def elSet (el : List D) (off : Nat) : List D → List D
  | [] => el
  | v :: r => elSet (el.set off v) (off + 1) r
def eboxI (objs : Objs) (id ver j : Nat) : Option (List D) :=
  match objs.getD id .dead with
  | .vec _ els => if ver = els.length then els[j]? else none
  | .frz _ els => if ver = els.length then els[j]? else none
  | _ => none

def mapOf (objs : Objs) : PV → Option (List (D × PV))
  | .map i => (match objs.getD i .dead with | .map es => some es | _ => none)
  | .nilm => some []
  | _ => none
def stepI (po : Pol) (call : CallF) (env : Env) (objs : Objs) : IOp → Option Res
  | .mov x => some (.ok (opnd env x) objs)
  | .pick c a b => match opnd env c with | .d (.bool t) => some (.ok (if t then opnd env a else opnd env b) objs) | _ => none
  | .alloc e zs => some (.ok (.box objs.length 0) (objs ++ [.cells e zs]))
  | .box e x => if (opnd env x).cellsOf.all PV.one then some (.ok (.box objs.length 0) (objs ++ [.cells e (opnd env x).cellsOf])) else none
  | .build zs parts => match fillI env zs parts with | some cs => some (.ok (.agg cs) objs) | none => none
  | .lit len zs parts => match fillD (if zs.any D.isRow then objs else []) env zs.length (List.replicate len zs) parts with | some els => some (.ok (.full els) objs) | none => none
  | .load sz x =>
    match opnd env x with
    | .box id off =>
      match objs.getD id .dead with
      | .cells _ cs => match sz with
        | none => match cs[off]? with | some v => some (.ok v objs) | none => none
        | some n => if off + n ≤ cs.length then some (.ok (.agg ((cs.drop off).take n)) objs) else none
      | _ => none
    | .elem cs off => match sz with
      | none => match cs[off]? with | some v => some (.ok (.d v) objs) | none => none
      | some n => if off + n ≤ cs.length then some (.ok (.agg (((cs.drop off).take n).map .d)) objs) else none
    | .ebox id ver ez j off =>
      match eboxI objs id ver j with
      | some el => if el.length = ez then (match elRead el off sz with | some v => some (.ok v objs) | none => none) else none
      | none => none
    | _ => none
  | .store sz a x =>
    match opnd env a with
    | .box id off =>
      match objs.getD id .dead with
      | .cells ty cs =>
        let vs := (opnd env x).cellsOf
        if vs.length = sz && off + sz ≤ cs.length && vs.all PV.one then some (.ok .any (objs.set id (.cells ty (setAt cs off vs)))) else none
      | _ => none
    | .ebox id ver ez j off =>
      match objs.getD id .dead with
      | .vec e els =>
        (match els[j]?, toDs objs (opnd env x).cellsOf with
        | some el, some vs => if ver = els.length ∧ el.length = ez ∧ vs.length = sz ∧ off + sz ≤ el.length then some (.ok .any (objs.set id (.vec e (els.set j (elSet el off vs))))) else none
        | _, _ => none)
      | _ => none
    | _ => none
  | .bin op x y => match binI op (opnd env x) (opnd env y) with | some v => some (.ok v objs) | none => none
  | .eq neg t x y => match eqI t (opnd env x) (opnd env y) with | some b => some (.ok (.d (.bool (if neg then !b else b))) objs) | none => none
  | .un op x => match unI op (opnd env x) with | some v => some (.ok v objs) | none => none
  | .faddr off x =>
    match opnd env x with
    | .box id o => some (.ok (.box id (o + off)) objs)
    | .elem cs o => some (.ok (.elem cs (o + off)) objs)
    | .ebox id ver sz j o => some (.ok (.ebox id ver sz j (o + off)) objs)
    | _ => none
  | .fld off sz x =>
    match opnd env x with
    | .agg cs => match sz with
      | none => match cs[off]? with | some v => some (.ok v objs) | none => none
      | some n => if off + n ≤ cs.length then some (.ok (.agg ((cs.drop off).take n)) objs) else none
    | _ => none
  | .iaddr sz x i =>
    match opnd env x, opnd env i with
    | .sl id ver ez lo n, .d (.int _ j) => if 0 ≤ j ∧ j < n ∧ ez = sz then some (.ok (.ebox id ver sz (lo + j.toNat) 0) objs) else none
    | xv, .d (.int _ j) =>
      (match xv.asRow objs with
      | some els => if 0 ≤ j then (match els[j.toNat]? with | some el => if el.length = sz then some (.ok (.elem el 0) objs) else none | none => none) else none
      | none => none)
    | _, _ => none
  | .aaddr len sz x i =>
    match opnd env x, opnd env i with
    | .box id off, .d (.int _ j) => if 0 ≤ j ∧ j < len then some (.ok (.box id (off + j.toNat * sz)) objs) else none
    | .elem cs off, .d (.int _ j) => if 0 ≤ j ∧ j < len then some (.ok (.elem cs (off + j.toNat * sz)) objs) else none
    | .ebox id ver ez q off, .d (.int _ j) => if 0 ≤ j ∧ j < len then some (.ok (.ebox id ver ez q (off + j.toNat * sz)) objs) else none
    | _, _ => none
  | .sidx x i =>
    match opnd env x, opnd env i with
    | .d (.str s), .d (.int _ j) => if 0 ≤ j then match s[j.toNat]? with | some b => some (.ok (.d (.int .u8 b.toNat)) objs) | none => none else none
    | _, _ => none
  | .aidx len sz ag x i =>
    match opnd env x, opnd env i with
    | .agg cs, .d (.int _ j) =>
      if 0 ≤ j ∧ j < len then
        if ag then (if j.toNat * sz + sz ≤ cs.length then some (.ok (.agg ((cs.drop (j.toNat * sz)).take sz)) objs) else none)
        else match cs[j.toNat * sz]? with | some v => some (.ok v objs) | none => none
      else none
    | _, _ => none
  | .sslc x lo hi =>
    match opnd env x with
    | .d (.str s) => match boundsI s.length (lo.map (opnd env)) (hi.map (opnd env)) with
      | some (l, h) => some (.ok (.d (.str ((s.drop l).take (h - l)))) objs)
      | none => none
    | _ => none
  | .slc sz x lo hi =>
    match opnd env x with
    | .sl id ver ez l0 n => (match boundsI n (lo.map (opnd env)) (hi.map (opnd env)) with
      | some (l, h) => if ez = sz then some (.ok (if l = 0 then .sl id ver sz l0 h else if h - l = 0 then .d (.row []) else .sl id ver sz (l0 + l) (h - l)) objs) else none
      | none => none)
    | xv =>
    match xv.asRow objs with
    | some els => match boundsI els.length (lo.map (opnd env)) (hi.map (opnd env)) with
      | some (l, h) => if hdOk sz els then some (.ok (.d (.row ((els.drop l).take (h - l)))) objs) else none
      | none => none
    | none => none
  | .convI k x => match opnd env x with | .d (.int _ n) => some (.ok (.d (.int k (k.wrap n))) objs) | _ => none
  | .convSS x => match opnd env x with | .d (.str s) => some (.ok (.d (.str s)) objs) | _ => none
  | .convBS x => match (opnd env x).asRow objs with
    | some els => (match bytesD els with | some l => some (.ok (.d (.str l)) objs) | none => none)
    | none => none
  | .convSB x => match opnd env x with | .d (.str s) => some (.ok (.d (.row (bytesOf s))) objs) | _ => none
  | .ext x i => match opnd env x with | .tup vs => (match vs[i]? with | some v => some (.ok v objs) | none => none) | _ => none
  | .mkf f first caps => some (.ok (.clo f (first.map (opnd env)) (caps.map (opnd env))) objs)
  | .mki t x => some (.ok (.iface t (opnd env x)) objs)
  | .call f args => outRes (doCall po call (.fn f) (args.map (opnd env)) objs)
  | .callx f args => outRes (doCall po call (.ext f) (args.map (opnd env)) objs)
  | .callv f args => match opnd env f with
    | .clo g first caps => outRes (doCall po call (.fn g) (first ++ args.map (opnd env) ++ caps) objs)
    | .yld id => outRes (doCall po call .yld (.yld id :: args.map (opnd env)) objs)
    | _ => none
  | .len kd x => match kd, opnd env x with
    | 0, .d (.str s) => some (.ok (.d (.int .i64 s.length)) objs)
    | 1, .d (.row els) => some (.ok (.d (.int .i64 els.length)) objs)
    | 1, .full els => some (.ok (.d (.int .i64 els.length)) objs)
    | 1, .own els _ => some (.ok (.d (.int .i64 els.length)) objs)
    | 1, .sl _ _ _ _ n => some (.ok (.d (.int .i64 n)) objs)
    | 2, .map i => (match objs.getD i .dead with | .map es => some (.ok (.d (.int .i64 es.length)) objs) | _ => none)
    | 2, .nilm => some (.ok (.d (.int .i64 0)) objs)
    | _, _ => none
  | .app e sz s x =>
    match (opnd env x).asRow objs with
    | some els => appI po.vt e sz (opnd env s) els objs
    | none => none
  | .apps e s x => match opnd env x with
    | .d (.str l) => appI po.vt e 1 (opnd env s) (bytesOf l) objs
    | _ => none
  | .mx xs => match xs.map (opnd env) with | [] => none | p :: r => match maxI p r with | some v => some (.ok v objs) | none => none
  | .mn xs => match xs.map (opnd env) with | [] => none | p :: r => match minI p r with | some v => some (.ok v objs) | none => none
  | .pan x => match opnd env x with | .iface t v => some (.pan (.iface t v) objs) | _ => none
  | .cvp x => (match opnd env x with
    | .box i n => (match objs.getD i .dead with | .cells _ cs => if n < cs.length then some (.ok (.box i n) objs) else none | _ => none)
    | _ => none)
  | .cvu tys x => (match opnd env x with
    | .box i n => (match objs.getD i .dead with | .cells ty cs => if n = 0 ∧ tys.contains (ty, cs.length) = true then some (.ok (.box i 0) objs) else none | _ => none)
    | _ => none)
  | .chk x => (match opnd env x with
    | .box i n => some (.ok (.box i n) objs)
    | .elem cs n => some (.ok (.elem cs n) objs)
    | .ebox a b c d e => some (.ok (.ebox a b c d e) objs)
    | .clo f a b => some (.ok (.clo f a b) objs)
    | _ => none)
  | .nope => none
  | .tas t dflt ok x => match opnd env x with
    | .iface t' v => if t' = t then some (.ok (if ok then .tup [v, .d (.bool true)] else v) objs) else if ok then some (.ok (.tup [dflt, .d (.bool false)]) objs) else none
    | .nili => if ok then some (.ok (.tup [dflt, .d (.bool false)]) objs) else none
    | _ => none
  | .allocAt id e zs => match objs[id]? with | some .dead => some (.ok (.box id 0) (objs.set id (.cells e zs))) | _ => none
  | .mkm => some (.ok (.map objs.length) (objs ++ [.map []]))
  | .mks e zs n m => match opnd env n, opnd env m with
    | .d (.int _ k), .d (.int _ l) => if 0 ≤ k ∧ l = k ∧ k < 16777216 ∧ po.vt.contains e = true then some (.ok (.sl objs.length k.toNat zs.length 0 k.toNat) (objs ++ [.vec e (List.replicate k.toNat zs)])) else none
    | _, _ => none
  | .look kk dflt ok m k =>
    match opnd env k with
    | .d kd =>
      match mapOf objs (opnd env m) with
      | some es => if kk.ok kd then (match findE kd es with
        | some (some v) => some (.ok (if ok then .tup [v, .d (.bool true)] else v) objs)
        | some none => some (.ok (if ok then .tup [dflt, .d (.bool false)] else dflt) objs)
        | none => none) else none
      | none => none
    | _ => none
  | .upd kk m k v =>
    match opnd env m, opnd env k with
    | .map i, .d kd => (match objs.getD i .dead with
      | .map es => if kk.ok kd then (match findE kd es with
        | some _ => some (.ok .any (objs.set i (.map (setE kd (opnd env v) es))))
        | none => none) else none
      | _ => none)
    | _, _ => none

/-! ### code -/
/-- What an operation leaves that is not carried out. -/
def undI : PV := .tup []
def wantedI (env : Env) : Option (Nat × Bool) → Option Bool
  | none => some true
  | some (t, want) => match getR .any env t with | .d (.bool b) => some (b == want) | .tup [] => some false | _ => none
abbrev Step := Option (Ex × Env × Objs)
def regI (po : Pol) (call : CallF) : List OpI → Env → Objs → Step
  | [], env, objs => some (.normal, env, objs)
  | o :: r, env, objs =>
    match wantedI env o.guard with
    | none => none
    | some false => regI po call r (put env o.dst undI) objs
    | some true =>
      match stepI po call env objs o.op with
      | none => none
      | some (.ok v objs') => regI po call r (put env o.dst v) objs'
      | some (.pan v objs') => some (.panic v, env, objs')
/-- What an operation takes as data: it is frozen first (where the order is that of the text). -/
def frzSet (env : Env) : IOp → List Nat
  | .lit _ _ ps => ps.flatMap fun p => (opnd env p.2).ids
  | .app _ _ _ x => (opnd env x).ids
  | .convBS x => (opnd env x).ids
  | .store _ a x => (match opnd env a with | .ebox _ _ _ _ _ => (opnd env x).ids | _ => [])
  | _ => []
def frzOp (env : Env) (objs : Objs) (op : IOp) : Objs :=
  match frzSet env op with
  | [] => objs
  | l => frzIds objs l
def regZ (po : Pol) (call : CallF) : List OpI → Env → Objs → Step
  | [], env, objs => some (.normal, env, objs)
  | o :: r, env, objs =>
    match wantedI env o.guard with
    | none => none
    | some false => regZ po call r (put env o.dst undI) objs
    | some true =>
      match stepI po call env (frzOp env objs o.op) o.op with
      | none => none
      | some (.ok v objs') => regZ po call r (put env o.dst v) objs'
      | some (.pan v objs') => some (.panic v, env, objs')
/-- The rows that may be written and are read as data. -/
def PV.slIds : PV → List Nat
  | .sl id _ _ _ n => if n = 0 then [] else [id]
  | _ => []
def slIdss (ps : List PV) : List Nat := ps.flatMap PV.slIds
/-- What an operation reads and writes of the objects. -/
def callFoot (po : Pol) (f : Cal) (args : List PV) (objs : Objs) : List Nat :=
  if po.pures f then PVs.ids args ++ reach (frzIds objs (PVs.ids args)) reachFuel (PVs.ids (args.map (PV.pur (frzIds objs (PVs.ids args))))) []
  else reach objs reachFuel (PVs.ids args) []
def footI (po : Pol) (env : Env) (objs : Objs) : IOp → List Nat × List Nat
  | .lit _ zs ps => (if zs.any D.isRow then ps.flatMap (fun p => slIdss (opnd env p.2).cellsOf) else [], [])
  | .convBS x => ((opnd env x).slIds, [])
  | .load _ x => match opnd env x with | .box id _ => ([id], []) | .ebox id _ _ _ _ => ([id], []) | _ => ([], [])
  | .store _ a x => match opnd env a with | .box id _ => ([], [id]) | .ebox id _ _ _ _ => (slIdss (opnd env x).cellsOf, [id]) | _ => ([], [])
  | .allocAt id _ _ => ([], [id])
  | .cvp x => ((opnd env x).ids, [])
  | .cvu _ x => ((opnd env x).ids, [])
  | .call f args => ([], callFoot po (.fn f) (args.map (opnd env)) objs)
  | .callx f args => ([], callFoot po (.ext f) (args.map (opnd env)) objs)
  | .callv f args => ([], match opnd env f with | .clo g first caps => callFoot po (.fn g) (first ++ args.map (opnd env) ++ caps) objs | .yld id => callFoot po .yld (.yld id :: args.map (opnd env)) objs | _ => [])
  | .app _ _ s x => ((opnd env x).slIds, (opnd env s).ids)
  | .apps _ s _ => ([], (opnd env s).ids)
  | .len _ x => ((opnd env x).ids, [])
  | .look _ _ _ m _ => ((opnd env m).ids, [])
  | .upd _ m _ _ => ([], (opnd env m).ids)
  | _ => ([], [])
def maskG (keep : List Nat) (env : Env) : Nat → Env := @List.rec PV (fun _ => Nat → Env) (fun _ => []) (fun x _ ih i => (cond (keep.contains i) x .any) :: ih (i + 1)) env
def maskI (keep : List Nat) (env : Env) : Env := maskG keep env 0
theorem maskG_eq (keep : List Nat) : ∀ (env : Env) (k : Nat), maskG keep env k = (List.range' k env.length).map fun i => if keep.contains i then env.getD (i - k) .any else .any
  | [], k => rfl
  | x :: r, k => by
    have := maskG_eq keep r (k + 1)
    have e : maskG keep (x :: r) k = (cond (keep.contains k) x .any) :: maskG keep r (k + 1) := rfl
    rw [e, this, List.length_cons, List.range'_succ, List.map_cons]
    congr 1
    · cases keep.contains k <;> simp
    · refine List.map_congr_left fun i hi => ?_
      rw [List.mem_range'_1] at hi
      have h1 : i - k = (i - (k + 1)) + 1 := by omega
      rw [h1, List.getD_cons_succ]
theorem maskI_eq (keep : List Nat) (env : Env) : maskI keep env = (List.range env.length).map fun i => if keep.contains i then env.getD i .any else .any := by
  unfold maskI
  rw [maskG_eq, List.range_eq_range']
  simp
def truncI (k : Nat) (env : Env) (objs : Objs) : Objs :=
  if Nat.ble objs.length k then objs else if (PVs.ids env ++ allIds (objs.take k)).all (fun i => i < k) then objs.take k else objs
def loopI (body : Env → Objs → Step) (keep : List Nat) (k : Nat) : Nat → Env → Objs → Step
  | 0, _, _ => none
  | n + 1, env, objs =>
    match body (maskI keep env) (truncI k (maskI keep env) objs) with
    | some (.normal, env', objs') => loopI body keep k n env' objs'
    | r => r
/-- The numbers of the objects that came in. -/
def newIds (objs objs' : Objs) : List Nat := List.range' objs.length (objs'.length - objs.length)
/-- The run of a region, with what each operation reads and writes. -/
def regF (po : Pol) (call : CallF) : List OpI → Env → Objs → Option ((Env × Objs) × List (List Nat × List Nat))
  | [], env, objs => some ((env, objs), [])
  | o :: r, env, objs =>
    match wantedI env o.guard with
    | none => none
    | some false => (match regF po call r (put env o.dst undI) objs with | some (st, fs) => some (st, ([], []) :: fs) | none => none)
    | some true =>
      match stepI po call env objs o.op with
      | some (.ok v objs') => (match regF po call r (put env o.dst v) objs' with | some (st, fs) => some (st, ((footI po env objs o.op).1, (footI po env objs o.op).2 ++ newIds objs objs') :: fs) | none => none)
      | _ => none
def disjoint (a b : List Nat) : Bool := a.all fun i => !b.contains i
def apartOK (fs : List (List Nat × List Nat)) (apart : List (Nat × Nat)) : Bool :=
  apart.all fun p => disjoint (fs.getD p.1 ([], [])).1 (fs.getD p.2 ([], [])).2 && disjoint (fs.getD p.1 ([], [])).2 (fs.getD p.2 ([], [])).2
/-- The new variables of a region that draws its order have their numbers from its begin on. -/
def cntA : List OpI → Nat
  | [] => 0
  | o :: r => match o.op with | .alloc _ _ => cntA r + 1 | _ => cntA r
def numA (k : Nat) : List OpI → List OpI
  | [] => []
  | o :: r => match o.op with
    | .alloc e zs => { dst := o.dst, guard := o.guard, op := .allocAt k e zs } :: numA (k + 1) r
    | _ => o :: numA k r
/-- What a region that draws its order runs no more where an operation panics; its new variables may have come. -/
def poisO (o : OpI) : OpI :=
  match o.op, o.guard with
  | .allocAt _ _ _, none => o
  | _, _ => { dst := o.dst, guard := none, op := .mov (.c undI) }
/-- The run of a region of which an operation panics: which one, with what; what each operation reads and writes. -/
def regP (po : Pol) (call : CallF) : List OpI → Env → Objs → Option ((Nat × PV × Objs) × List (List Nat × List Nat))
  | [], _, _ => none
  | o :: r, env, objs =>
    match wantedI env o.guard with
    | none => none
    | some false => (match regP po call r (put env o.dst undI) objs with | some ((k, v, ob), fs) => some ((k + 1, v, ob), ([], []) :: fs) | none => none)
    | some true =>
      match stepI po call env objs o.op with
      | some (.ok v objs') => (match regP po call r (put env o.dst v) objs' with | some ((k, v, ob), fs) => some ((k + 1, v, ob), ((footI po env objs o.op).1, (footI po env objs o.op).2 ++ newIds objs objs') :: fs) | none => none)
      | some (.pan v ob) => (match regF po call (r.map poisO) (put env o.dst undI) objs with | some (_, fs) => some ((0, v, ob), ((footI po env objs o.op).1, (footI po env objs o.op).2 ++ newIds objs objs) :: fs) | none => none)
      | none => none
/-- The temporaries that a region sets, unknown. -/
def maskD : List OpI → Env → Env
  | [], env => env
  | o :: r, env => maskD r (put env o.dst .any)
def panJ (k0 : Nat) (ops : List OpI) (apart : List (Nat × Nat)) (env : Env) : Option ((Nat × PV × Objs) × List (List Nat × List Nat)) → Step
  | some ((k, v, ob), fs) => if apartOK fs apart && apart.contains (ops.length + k, ops.length + k) && (v.ids ++ PVs.ids (maskD ops env) ++ allIds (ob.take k0)).all (fun i => i < k0) then some (.panic v, maskD ops env, ob.take k0) else none
  | none => none
def regdJ (po : Pol) (call : CallF) (k0 : Nat) (ops : List OpI) (apart : List (Nat × Nat)) (env : Env) (objs : Objs) : Step :=
  match apart with
  | [] => (match regI po call ops env objs with | some (.normal, env', objs') => some (.normal, env', objs') | _ => none)
  | _ :: _ =>
    match regF po call ops env objs with
    | some ((env', objs'), fs) => if apartOK fs apart then some (.normal, env', objs') else none
    | none => panJ k0 ops apart env (regP po call ops env objs)
def regdI (po : Pol) (call : CallF) (ops : List OpI) (apart : List (Nat × Nat)) (env : Env) (objs : Objs) : Step :=
  match cntA ops with
  | 0 => regdJ po call objs.length ops apart env objs
  | n + 1 => regdJ po call objs.length (numA objs.length ops) apart env (objs ++ List.replicate (n + 1) .dead)
def jmpEx : Option (Option Nat) → Ex
  | none => .normal
  | some none => .ret
  | some (some id) => .exit id
def codeI (po : Pol) (call : CallF) (rd : Bool) (n : Nat) : IC → Env → Objs → Step
  | .skip, env, objs => some (.normal, env, objs)
  | .reg ops, env, objs => regZ po call ops env objs
  | .regd ops apart, env, objs => regdI po call ops apart env objs
  | .seq a b, env, objs =>
    match codeI po call rd n a env objs with
    | some (.normal, env', objs') => codeI po call rd n b env' objs'
    | r => r
  | .cond c a b, env, objs =>
    match opnd env c with
    | .d (.bool true) => codeI po call rd n a env objs
    | .d (.bool false) => codeI po call rd n b env objs
    | _ => none
  | .block id b, env, objs =>
    match codeI po call rd n b env objs with
    | some (.exit id', env', objs') => if id' = id then some (.normal, env', objs') else some (.exit id', env', objs')
    | r => r
  | .loop keep b, env, objs => loopI (codeI po call rd n b) keep objs.length n env objs
  | .exit id, env, objs => some (.exit id, env, objs)
  | .ret, env, objs => some (.ret, env, objs)
  | .bad, _, _ => none
  | .rf keep gg ps as bd, env, objs =>
    if rd then none else
    match opnd env gg with
    | .clo f first caps =>
      match doCall po call (.fn f) (first ++ [.yld objs.length] ++ caps) (objs ++ [.loop 0 none (maskI keep env) ps as bd]) with
      | some (.ret _, objs') =>
        match objs'.getD objs.length .dead with
        | .loop st pd e2 ps2 as2 bd2 => if st = 1 then none else some (jmpEx pd, env, objs'.set objs.length (.loop 3 pd e2 ps2 as2 bd2))
        | _ => none
      | _ => none
    | _ => none

def resI (env : Env) (objs : Objs) : List ResI → Option (List PV)
  | [] => some []
  | .tmp t :: r => match resI env objs r with | some vs => some (getR .any env t :: vs) | none => none
  | .cell t sz :: r =>
    match getR .any env t with
    | .box id off => match objs.getD id .dead, resI env objs r with
      | .cells _ cs, some vs => match sz with
        | none => match cs[off]? with | some v => some (v :: vs) | none => none
        | some n => if off + n ≤ cs.length then some (.agg ((cs.drop off).take n) :: vs) else none
      | _, _ => none
    | _ => none
def tupI : List PV → PV
  | [v] => v
  | vs => .tup vs
def finI (fi : FnI) : Step → Option (Out × Objs)
  | some (.normal, env, objs') => match resI env objs' fi.res with | some vs => some (.ret (tupI vs), objs') | none => none
  | some (.ret, env, objs') => match resI env objs' fi.res with | some vs => some (.ret (tupI vs), objs') | none => none
  | some (.panic v, _, objs') => some (.panic v, objs')
  | _ => none
/-- The deferred call is carried out; one that was panicking is recovered. -/
def deferI (po : Pol) (call : CallF) (fi : FnI) (f : FuncId) (vals : List PV) : Step → Option (Out × Objs)
  | some (.normal, env, objs) => (match doCall po call (.dfn f false) vals objs with
    | some (.ret _, objs') => (match resI env objs' fi.res with | some vs => some (.ret (tupI vs), objs') | none => none)
    | _ => none)
  | some (.ret, env, objs) => (match doCall po call (.dfn f false) vals objs with
    | some (.ret _, objs') => (match resI env objs' fi.res with | some vs => some (.ret (tupI vs), objs') | none => none)
    | _ => none)
  | some (.panic p, env, objs) => (match doCall po call (.dfn f true) (p :: vals) objs with
    | some (.ret _, objs') => (match resI env objs' fi.res with | some vs => some (.ret (tupI vs), objs') | none => none)
    | _ => none)
  | _ => none
def evalB (po : Pol) (call : CallF) (n : Nat) (fi : FnI) : IB → Env → Objs → Option (Out × Objs)
  | .plain c, env, objs => finI fi (codeI po call false n c env objs)
  | .seq c r, env, objs =>
    (match codeI po call false n c env objs with
    | some (.normal, env', objs') => evalB po call n fi r env' objs'
    | st => finI fi st)
  | .dfr ios g args rest, env, objs =>
    (match regZ po call ios env objs with
    | some (.normal, env', objs') =>
      (match opnd env' g with
      | .clo f first caps => deferI po call fi f (first ++ args.map (opnd env') ++ caps) (codeI po call false n rest env' objs')
      | _ => none)
    | _ => none)
def bodyI (po : Pol) (call : CallF) (n : Nat) (fi : FnI) (args : List PV) (objs : Objs) : Option (Out × Objs) :=
  if args.length = fi.np ∧ fi.np ≤ fi.nt then evalB po call n fi fi.body (args ++ List.replicate (fi.nt - args.length) .any) objs else none
def movsI : List (Option Nat × Opnd) → Env → Env
  | [], env => env
  | (dst, x) :: r, env => movsI r (put env dst (opnd env x))
/-- The body of a deferred function, behind its recover. -/
def bodyD (po : Pol) (call : CallF) (n : Nat) (fd : FnD) (rv : PV) (args : List PV) (objs : Objs) : Option (Out × Objs) :=
  if args.length = fd.np ∧ fd.np ≤ fd.nt then
    match codeI po call true n fd.body (movsI fd.movs (put (args ++ List.replicate (fd.nt - args.length) .any) fd.dst rv)) objs with
    | some (.normal, _, objs') => some (.ret (.tup []), objs')
    | some (.ret, _, objs') => some (.ret (.tup []), objs')
    | _ => none
  else none

def setPs : Env → List Nat → List PV → Env
  | env, p :: ps, v :: vs => setPs (env.set p v) ps vs
  | env, _, _ => env
/-- One round of a range over a function: its body, called. -/
def roundI (po : Pol) (call : CallF) (n : Nat) (id : Nat) (rest : List PV) (objs : Objs) : Option (Out × Objs) :=
  match objs.getD id .dead with
  | .loop st _ env ps as bd =>
    if st = 0 ∧ rest.length = ps.length then
      match codeI po call true n as (setPs env ps rest) objs with
      | some (.normal, env1, objs1) =>
        match objs1.getD id .dead with
        | .loop st1 pd1 e1 ps1 as1 bd1 =>
          if st1 = 0 then
            match codeI po call true n bd env1 (objs1.set id (.loop 1 pd1 e1 ps1 as1 bd1)) with
            | some (ex, _, objs2) =>
              match objs2.getD id .dead with
              | .loop _ _ e2 ps2 as2 bd2 =>
                match ex with
                | .normal => some (.ret (.d (.bool true)), objs2.set id (.loop 0 none e2 ps2 as2 bd2))
                | .exit j => some (.ret (.d (.bool false)), objs2.set id (.loop 2 (some (some j)) e2 ps2 as2 bd2))
                | .ret => some (.ret (.d (.bool false)), objs2.set id (.loop 2 (some none) e2 ps2 as2 bd2))
                | .panic _ => none
              | _ => none
            | none => none
          else none
        | _ => none
      | _ => none
    else none
  | _ => none

structure Ctx where
  po : Pol
  fn : FuncId → Option FnI
  sum : FuncId → Option (List PV → Objs → Option (Out × Objs))
  ext : FuncId → Option (List PV → Objs → Option (Out × Objs))
  dfn : FuncId → Option FnD

def callI (K : Ctx) : Nat → CallF
  | 0, _, _, _ => none
  | n + 1, .yld, args, objs => match args with | .yld id :: rest => roundI K.po (callI K n) n id rest objs | _ => none
  | _ + 1, .ext f, args, objs => match K.ext f with | some s => s args objs | none => none
  | n + 1, .dfn f false, args, objs => (match K.dfn f with | some fd => bodyD K.po (callI K n) n fd .nili args objs | none => none)
  | n + 1, .dfn f true, args, objs => (match K.dfn f, args with | some fd, p :: rest => bodyD K.po (callI K n) n fd p rest objs | _, _ => none)
  | n + 1, .fn f, args, objs =>
    match K.sum f with
    | some s => s args objs
    | none =>
      match K.fn f with
      | some fi => bodyI K.po (callI K n) n fi args objs
      | none => none

end
end Pi
end Go.Proofs.YthdgpejippohnaaGreatDoor
