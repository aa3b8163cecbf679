/- From the loaded program's operations to those of the machine of values. -/
import Derived.Test.YtmikgopohkbbfaaA
namespace Go.Ab
open Go
structure An where
  heap : FuncId → List Nat
  fz : FuncId → List Nat
  arr : FuncId → List Nat
  raw : FuncId → Bool
  glob : Nat → Option (List AV)
def An.bk (an : An) (f : FuncId) (d : Nat) : Bk := if (an.heap f).contains d then .heap else if (an.fz f).contains d then .fz else .reg
mutual
def cAV : Nat → Value → Option AV
  | 0, _ => none
  | _ + 1, .bool x => some (.b x)
  | _ + 1, .int k n => some (.i k n)
  | _ + 1, .string s => some (.s s.data.toList)
  | _ + 1, .pointer none => some .np
  | _ + 1, .slice none 0 0 => some (.sl 0 [] .nl)
  | _ + 1, .nilFunc => some .nf
  | _ + 1, .nilIface => some .ni
  | f + 1, .agg cs => (cAVs f cs.toList).bind fun xs => if xs.all (fun x => match x with | .ag _ => false | _ => true) then some (.ag xs) else none
  | _ + 1, _ => none
def cAVs : Nat → List Value → Option (List AV)
  | 0, _ => none
  | _ + 1, [] => some []
  | f + 1, v :: r => (cAV f v).bind fun x => (cAVs f r).map fun xs => x :: xs
end
section
variable (P : Program) (an : An) (fid : FuncId)
def cO : Operand → Option O
  | .tmp t => some (.t t)
  | .const v => (cAV 100 v).map .c
  | .global g => (an.glob g).map fun cs => .c (.fz cs)
  | .func f => some (.c (.fn f [] []))
def cOs : List Operand → Option (List O)
  | [] => some []
  | x :: r => (cO an x).bind fun y => (cOs r).map fun ys => y :: ys
def cSize (t : TypeId) : Option Nat := (P.info? t).map (·.size)
def cBytes (t : TypeId) : Option Nat := (P.info? t).map (·.bytes)
def cAgg (t : TypeId) : Option Bool := (P.underlying t).map fun | .struct _ => true | .array _ _ => true | _ => false
def cZero (t : TypeId) : Option (List AV) := ((P.info? t).bind (·.zero)).bind fun v => (cAVs 1000 v.cells.toList).bind fun cs => if cs.all (fun x => match x with | .ag _ => false | _ => true) then some cs else none
def cZeroV (t : TypeId) : Option AV := (cAgg P t).bind fun g => (cZero P t).bind fun cs => (cSize P t).bind fun n => val g n cs
def cZeroOk (t : TypeId) : Bool := match P.info? t with | some i => (match i.zero with | some z => z.cells.size == i.size | none => false) | none => false
def cKd (t : TypeId) : Kd := match P.underlying t with | some (.int k) => .i k | some .bool => .b | some .string => .s | _ => .any
def cScalar (t : TypeId) : Bool := match P.underlying t with | some .bool | some (.int _) | some .string => true | _ => false
def cPartsS (places : List (Nat × Nat)) : List (Nat × Operand) → Option (List (Nat × Nat × O))
  | [] => some []
  | (j, x) :: r => (places[j]?).bind fun p => (cO an x).bind fun y => (cPartsS places r).map fun ys => (p.1, p.2, y) :: ys
def cPartsA (n : Nat) : List (Nat × Operand) → Option (List (Nat × Nat × O))
  | [] => some []
  | (j, x) :: r => (cO an x).bind fun y => (cPartsA n r).map fun ys => (j * n, n, y) :: ys
def cPartsL : List (Nat × Operand) → Option (List (Nat × O))
  | [] => some []
  | (j, x) :: r => (cO an x).bind fun y => (cPartsL r).map fun ys => (j, y) :: ys
def cOptO : Option Operand → Option (Option O)
  | none => some none
  | some x => (cO an x).map some
def fieldsOk : List Field → Nat → Bool
  | [], _ => true
  | fd :: r, j => cScalar P fd.type && fd.name != "_" && fd.offset == j && fieldsOk r (j + 1)
def isEqNe : BinOp → Option Bool | .eql => some false | .neq => some true | _ => none
def cOp (o : Oper) : Option Op :=
  match o.op with
  | .move x | .assign x => (cO an x).map .mv
  | .pick c a b => (cO an c).bind fun c => (cO an a).bind fun a => (cO an b).map fun b => .pick c a b
  | .alloc e => (cZero P e).bind fun z => o.dst.map fun d => .new (an.bk fid d) z
  | .box e x => (cSize P e).bind fun n => (cO an x).bind fun x => o.dst.map fun d => .box (an.bk fid d) n x
  | .build t ps => (cZero P t).bind fun z => match P.underlying t with
    | some (.struct fields) => (fields.toList.mapM (fun f => (P.info? f.type).map fun i => (f.offset, i.size))).bind fun places => (cPartsS an places ps.toList).map fun ps => .build z ps
    | some (.array _ e) => (cSize P e).bind fun n => (cPartsA an n ps.toList).map fun ps => .build z ps
    | _ => none
  | .buildSlice t len ps => match P.underlying t with
    | some (.slice e) => (cSize P e).bind fun sz => (cZeroV P e).bind fun z => if sz = 0 ∨ len * sz > 2 ^ 24 ∨ cZeroOk P e = false then none else (cPartsL an ps.toList).map fun ps => .bsl sz len z ps
    | _ => none
  | .load t a => (cAgg P t).bind fun g => (cSize P t).bind fun n => (cO an a).map fun a => .ld g n a
  | .store t a x => (cSize P t).bind fun n => (cO an a).bind fun a => (cO an x).map fun x => .st n a x
  | .nilCheck x => (cO an x).map .nchk
  | .binOp op t x y _ => (cO an x).bind fun x => (cO an y).bind fun y => match P.underlying t with
    | some (.int _) | some .string => some (.bin op x y)
    | some .bool => (isEqNe op).map fun g => .eqs g .b x y
    | some (.pointer _) => (isEqNe op).map fun g => .eqs g .p x y
    | some (.slice _) => (isEqNe op).map fun g => .eqs g .sl x y
    | some (.func ..) => (isEqNe op).map fun g => .eqs g .f x y
    | some (.struct fields) => if fieldsOk P fields.toList 0 && !P.eqGuardType P.depth t && !P.stoodInHeld t then (isEqNe op).map fun g => .eqs g (.st (fields.toList.map fun fd => cKd P fd.type)) x y else none
    | _ => none
  | .unOp op _ x => (cO an x).map fun x => .un op x
  | .convert src dst x => (cO an x).bind fun x => match P.underlying src, P.underlying dst with
    | some (.int _), some (.int k) => some (.cvi k x)
    | some .string, some .string => some (.bin .add x (.c (.s [])))
    | some (.slice e), some .string => if P.underlying e matches some (.int .u8) then some (.cvs x) else none
    | some .string, some (.slice e) => if P.underlying e matches some (.int .u8) then some (.cvb x) else none
    | some (.slice e), some (.slice _) => if src = dst ∧ P.underlying e matches some (.int .u8) then some (.cvm x) else none
    | _, _ => none
  | .fieldAddr s x j => match P.underlying s with
    | some (.struct fields) => (fields[j]?).bind fun fd => (cSize P fd.type).bind fun n => if n = 0 then none else (cO an x).map fun x => .fa fd.offset x
    | _ => none
  | .indexAddr t x j => (cO an x).bind fun x => (cO an j).bind fun j => match P.underlying t with
    | some (.slice e) => (cSize P e).bind fun sz => if sz = 0 then none else some (.ia sz x j)
    | some (.array len e) => (cSize P e).bind fun sz => if sz = 0 then none else some (.iap sz len x j)
    | _ => none
  | .index t x j => (cO an x).bind fun x => (cO an j).bind fun j => match P.underlying t with
    | some .string => some (.ixs x j)
    | _ => none
  | .slice t x lo hi mx => (cO an x).bind fun x => (cOptO an lo).bind fun lo => (cOptO an hi).bind fun hi => (cOptO an mx).bind fun mx => match P.underlying t with
    | some .string => some (.slc 0 x lo hi mx)
    | some (.slice e) => (cSize P e).bind fun sz => if sz = 0 then none else some (.slc sz x lo hi mx)
    | _ => none
  | .makeSlice t l c => match P.underlying t with
    | some (.slice e) => (cSize P e).bind fun sz => (cBytes P e).bind fun by_ => (cZeroV P e).bind fun z => o.dst.bind fun d => if sz = 0 ∨ by_ = 0 ∨ cZeroOk P e = false then none else (cO an l).bind fun l => (cO an c).map fun c => .mk ((an.arr fid).contains d) sz by_ z l c
    | _ => none
  | .extract x j => (cO an x).map fun x => .ext j x
  | .makeFunc (.func f) first cap => (cOs an first.toList).bind fun a => (cOs an cap.toList).map fun b => .mkf f a b
  | .call c => (cOs an c.args.toList).bind fun as => match c.callee with
    | .value f => (cO an f).map fun f => .call f as
    | .builtin .len => match as, c.argTypes.toList with
      | [x], [t] => match P.underlying t with
        | some .string => some (.len true x)
        | some (.slice _) => some (.len false x)
        | some (.array n _) => some (.mv (.c (.i .i64 n)))
        | _ => none
      | _, _ => none
    | .builtin .cap => match as, c.argTypes.toList with
      | [x], [t] => match P.underlying t with
        | some (.slice _) => some (.cap x)
        | _ => none
      | _, _ => none
    | .builtin .append => match as, c.argTypes.toList with
      | [x, y], [t0, t1] => match P.underlying t0 with
        | some (.slice e) => (cSize P e).bind fun sz => (cBytes P e).bind fun by_ => o.dst.bind fun d => if sz = 0 ∨ by_ = 0 ∨ cZeroOk P e = false then none else match P.underlying t1 with
          | some (.slice _) | some .string => some (.app ((an.arr fid).contains d) sz by_ x y)
          | some (.int _) => (cZeroV P e).map fun z => .apz ((an.arr fid).contains d) sz by_ z x y
          | _ => none
        | _ => none
      | _, _ => none
    | .builtin .copy => match as, c.argTypes.toList with
      | [x, y], [t0, _] => match P.underlying t0 with
        | some (.slice e) => (cSize P e).bind fun sz => if sz = 0 then none else some (.cpy sz x y)
        | _ => none
      | _, _ => none
    | .builtin .clear => match as, c.argTypes.toList with
      | [x], [t] => match P.underlying t with
        | some (.slice e) => (cSize P e).bind fun sz => if sz = 0 ∨ cZeroOk P e = false then none else (cZeroV P e).map fun z => .clr z x
        | _ => none
      | _, _ => none
    | .builtin .max => some (.mx false as)
    | .builtin .min => some (.mx true as)
    | _ => none
  | .panic _ | .makeInterface .. => some .die
  | _ => none
def cGuard (ops : Array Oper) : Option (Nat × Bool) → Option (Option (Nat × Bool))
  | none => some none
  | some (j, w) => ((ops[j]?).bind (·.dst)).map fun t => some (t, w)
def dstOk (n : Nat) (d : Option Nat) : Bool := match d with | some d => decide (d < n) | none => true
def cOper (all : Array Oper) (o : Oper) : Option AOper := (cOp P an fid o).bind fun op => (cGuard all o.guard).bind fun g => if dstOk (((P.funcs[fid]?).map (·.ntmps)).getD 0) o.dst = true then some { dst := o.dst, op := op, kd := cKd P o.type, guard := g } else none
def cOps (all : Array Oper) : List Oper → Option (List AOper)
  | [] => some []
  | o :: r => (cOper P an fid all o).bind fun x => (cOps all r).map fun rs => x :: rs
end
/-! ### A region that draws its order: an order of its own; what is to be read again -/
def usesO : List O → List Nat
  | [] => []
  | .t n :: r => n :: usesO r
  | _ :: r => usesO r
def opO : Op → List O
  | .mv x | .box _ _ x | .ld _ _ x | .nchk x | .un _ x | .cvi _ x | .cvs x | .cvb x | .cvm x | .fa _ x | .ext _ x | .len _ x | .cap x | .clr _ x => [x]
  | .pick c a b => [c, a, b]
  | .new _ _ | .die => []
  | .build _ ps => ps.map (·.2.2)
  | .bsl _ _ _ ps => ps.map (·.2)
  | .st _ a x | .bin _ a x | .eqs _ _ a x | .ia _ a x | .iap _ _ a x | .ixs a x | .mk _ _ _ _ a x | .app _ _ _ a x | .apz _ _ _ _ a x | .cpy _ a x => [a, x]
  | .slc _ x lo hi mx => x :: (lo.toList ++ hi.toList ++ mx.toList)
  | .mkf _ a b => a ++ b
  | .call f as => f :: as
  | .mx _ xs => xs
def AOper.uses (o : AOper) : List Nat := usesO (opO o.op) ++ (match o.guard with | some (g, _) => [g] | none => [])
/-- Makes a new place; does something; only tells. -/
def isA : Op → Bool | .new m _ => m != .fz | .box m _ _ => m != .fz | .mk arr .. => arr | _ => false
def isC : Op → Bool | .call .. | .st .. | .app .. | .apz .. | .cpy .. | .clr .. => true | _ => false
/-- Looks at what may change. -/
def isL : Op → Bool | .ld .. | .cvs .. | .ia .. | .slc .. => true | _ => false
structure DI where
  i : Nat
  o : AOper
  an : Nat
/-- The order: first what makes new places, and what it needs; then what tells, as soon as it can; then the next that does something. -/
def eff (as : List DI) (x : DI) : Bool := isC x.o.op || (isA x.o.op && as.any fun y => x.an.testBit y.i && isC y.o.op)
def early (as : List DI) (x : DI) : Bool := as.any fun y => isA y.o.op && !eff as y && (y.i == x.i || y.an.testBit x.i)
def pickR (all : List DI) : Nat → List DI → List DI → List DI
  | 0, done, _ => done
  | f + 1, done, rest =>
    match rest.find? fun x => !eff all x && all.all fun z => !x.an.testBit z.i || done.any fun y => y.i == z.i with
    | some x => pickR all f (done ++ [x]) (rest.filter fun y => y.i != x.i)
    | none => match rest.find? fun x => all.all fun z => !x.an.testBit z.i || done.any fun y => y.i == z.i with
      | some x => pickR all f (done ++ [x]) (rest.filter fun y => y.i != x.i)
      | none => done
def order (all : List DI) : List DI := pickR all all.length (all.filter (early all)) (all.filter fun x => !early all x)
def chks (ef : DI → Bool) : List DI → List DI → List (AOper × List AOper)
  | _, [] => []
  | done, x :: r => (x.o, if ef x then (done.filter fun y => isL y.o.op && !x.an.testBit y.i).map (·.o) else if isA x.o.op then (done.filter fun y => isL y.o.op).map (·.o) else []) :: chks ef (done ++ [x]) r
/-! What makes every order come to the same. -/
def hasDst (d : Option Nat) (l : List Nat) : Bool := match d with | some d => l.contains d | none => false
def sameDst (a b : Option Nat) : Bool := match a, b with | some a, some b => a == b | _, _ => false
/-- One alone. -/
def soloOk (x : DI) : Bool :=
  (!hasDst x.o.dst x.o.uses || (!isL x.o.op && !isA x.o.op)) && (!isA x.o.op || (x.o.guard.isNone && x.o.dst.isSome)) && !x.an.testBit x.i
/-- An earlier and a later one. -/
def pairOk (ef : DI → Bool) (x y : DI) : Bool :=
  x.i != y.i && !x.an.testBit y.i && !sameDst x.o.dst y.o.dst && (!(ef x && ef y) || y.an.testBit x.i) &&
  (!hasDst y.o.dst x.o.uses || (y.an.testBit x.i && !isL x.o.op && !isA y.o.op)) &&
  (!hasDst x.o.dst y.o.uses || y.an.testBit x.i) &&
  (!(isA y.o.op && !ef y) || !ef x)
def pairsOk (ef : DI → Bool) : List DI → Bool
  | [] => true
  | x :: r => soloOk x && r.all (pairOk ef x) && pairsOk ef r
/-- What does nothing comes as soon as it can. -/
def tight (ef : DI → Bool) : Option Nat → List DI → Bool
  | _, [] => true
  | last, x :: r => if ef x then tight ef (some x.i) r else (match last with | some l => x.an.testBit l | none => true) && tight ef last r
def efOk (ef : DI → Bool) (x : DI) : Bool := (!isC x.o.op || ef x) && (!ef x || isC x.o.op || isA x.o.op)
section
variable (P : Program) (an : An) (fid : FuncId)
def dAll (ops : Array Oper) (l : List AOper) : List DI := (l.zip (Region.before ops).toList).zipIdx.map fun ((o, a), i) => ({ i := i, o := o, an := a } : DI)
def drOk (ops : Array Oper) (all ord : List DI) : Bool :=
  (P.follows .mixedOrders || !Region.departs ops) && (ops.all fun o => o.after.all fun e => !Region.binds .any e || decide (e.on < ops.size)) &&
  ord.length == ops.size && ((List.range ops.size).all fun i => ord.any fun x => x.i == i) && ord.all (efOk (eff all)) && pairsOk (eff all) ord && tight (eff all) none ord
def cDr (ops : Array Oper) : Option (List (AOper × List AOper)) :=
  (cOps P an fid ops ops.toList).bind fun l =>
    let all := dAll ops l
    let ord := order all
    if drOk P ops all ord then some (chks (eff all) [] ord) else none
end
/-! ### What lives behind a region (a hint: any list is sound) -/
def insL (x : Nat) (l : List Nat) : List Nat := if l.contains x then l else x :: l
def uniL (a b : List Nat) : List Nat := a.foldr insL b
def lvOps : List AOper → List Nat → List Nat
  | [], l => l
  | o :: r, l =>
    let l := lvOps r l
    let l := match o.dst with | some d => l.filter (· != d) | none => l
    o.uses.foldr insL l
def find (l : List (Nat × List Nat)) (k : Nat) : List Nat := ((l.find? fun p => p.1 == k).map (·.2)).getD []
def labelOf : Code → Option Nat
  | .seq a b => match labelOf a with | some l => some l | none => labelOf b
  | .label l => some l
  | _ => none
section
variable (P : Program) (an : An) (fid : FuncId)
def cC : Nat → List (Nat × List Nat) → List Nat → Code → List Nat → Option (C × List Nat)
  | 0, _, _, _, _ => none
  | _ + 1, _, _, .skip, out => some (.skip, out)
  | f + 1, ex, rt, .seq a b, out => (cC f ex rt b out).bind fun (b', lb) => (cC f ex rt a lb).map fun (a', la) => (.seq a' b', la)
  | _ + 1, _, _, .region _ ops false, out => (cOps P an fid ops ops.toList).map fun l => (.rgn l out, lvOps l out)
  | _ + 1, _, _, .region _ ops true, out => (cOps P an fid ops ops.toList).bind fun l => (cDr P an fid ops).map fun d => (.drg d out, lvOps l out)
  | f + 1, ex, rt, .cond c a b, out => (cO an c).bind fun c => (cC f ex rt a out).bind fun (a', la) => (cC f ex rt b out).map fun (b', lb) => (.cond c a' b', (usesO [c]).foldr insL (uniL la lb))
  | f + 1, ex, rt, .block id c, out => (cC f ((id, out) :: ex) rt c out).map fun (c', l) => (.blk id c', l)
  | f + 1, ex, rt, .loop c, _ => (cC f ex rt c []).bind fun (_, l1) => (cC f ex rt c l1).bind fun (_, l2) => let L := uniL l1 l2; (cC f ex rt c L).map fun (c', _) => (.loop L c', L)
  | _ + 1, ex, _, .exit id, _ => some (.exit id, find ex id)
  | _ + 1, _, rt, .ret, _ => some (.ret, rt)
  | _ + 1, _, _, .label _, out => some (.skip, out)
  | _ + 1, ex, _, .goto l, _ => some (.goto l, find ex (1000000 + l))
  | f + 1, ex, rt, .scope c, out => match labelOf c with
    | some l => match findLabel c l with
      | some r => (cC f ex rt r out).bind fun (r', lr) => (cC f ((1000000 + l, lr) :: ex) rt c out).map fun (c', lc) => (.scp c' l r', lc)
      | none => none
    | none => none
  | _ + 1, _, _, _, _ => none
def cRes : List ResultVar → Option (List (Nat × Option (Bool × Nat)))
  | [] => some []
  | .tmp t :: r => (cRes r).map fun l => (t, none) :: l
  | .cell a t :: r => (cAgg P t).bind fun g => (cSize P t).bind fun n => (cRes r).map fun l => (a, some (g, n)) :: l
def cF (fn : Func) : Option AFn :=
  (cRes P fn.results.toList).bind fun rs => fn.body.bind fun c => (cC P an fid 1000 [] (rs.map (·.1)) c (rs.map (·.1))).map fun (c', _) => { code := c', nt := fn.ntmps, res := rs, raw := an.raw fid }
end
end Go.Ab
