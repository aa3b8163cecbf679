/- The machine of values: a plain evaluator over the translated operations, in which a slice is a list, a local struct a row of the frame, and no order, capacity or address is left open. -/
import Derived.Calls
import Derived.KernelRfl
namespace Go.Ab
/-- The right to append: the nil slice; none; the capacity is the length; by a token. -/
inductive Tk | nl | no | ex | id (k : Nat) deriving DecidableEq, Inhabited
inductive AV
  | b (x : Bool) | i (k : IntKind) (n : Int) | s (x : List UInt8)
  | np | rf (o off : Nat) | fz (cs : List AV) | ap (a idx off : Nat)
  | sl (sz : Nat) (xs : List AV) (t : Tk) | ar (a off len cap : Nat) (t : Tk)
  | fn (f : FuncId) (first cap : List AV) | nf
  | ag (cs : List AV) | tu (vs : List AV) | ni
  deriving Inhabited
def AV.cells : AV → List AV
  | .ag cs => cs
  | v => [v]
mutual
def AV.beq : AV → AV → Bool
  | .b x, .b y => x == y
  | .i k n, .i k' n' => k == k' && n == n'
  | .s x, .s y => x == y
  | .np, .np => true
  | .rf a o, .rf a' o' => a == a' && o == o'
  | .fz x, .fz y => AV.beqs x y
  | .ap a j o, .ap a' j' o' => a == a' && j == j' && o == o'
  | .sl z xs t, .sl z' ys t' => z == z' && AV.beqs xs ys && t == t'
  | .ar a o l c t, .ar a' o' l' c' t' => a == a' && o == o' && l == l' && c == c' && t == t'
  | .fn f x y, .fn f' x' y' => f == f' && AV.beqs x x' && AV.beqs y y'
  | .nf, .nf => true
  | .ag x, .ag y => AV.beqs x y
  | .tu x, .tu y => AV.beqs x y
  | .ni, .ni => true
  | _, _ => false
def AV.beqs : List AV → List AV → Bool
  | [], [] => true
  | x :: xs, y :: ys => AV.beq x y && AV.beqs xs ys
  | _, _ => false
end
/-! ### A map from numbers, as a tree -/
inductive Mp (α : Type) | nil | node (v : Option α) (l r : Mp α)
namespace Mp
variable {α : Type}
def get : Mp α → Nat → Option α
  | nil, _ => none
  | node v l r, n => if n = 0 then v else if n % 2 = 1 then l.get (n / 2) else r.get (n / 2 - 1)
def setF : Nat → Mp α → Nat → Option α → Mp α
  | 0, m, _, _ => m
  | f + 1, nil, n, v => if n = 0 then node v nil nil else if n % 2 = 1 then node none (setF f nil (n / 2) v) nil else node none nil (setF f nil (n / 2 - 1) v)
  | f + 1, node w l r, n, v => if n = 0 then node v l r else if n % 2 = 1 then node w (setF f l (n / 2) v) r else node w l (setF f r (n / 2 - 1) v)
def set (m : Mp α) (n : Nat) (v : Option α) : Mp α := setF (n + 1) m n v
theorem get_setF (v : Option α) : ∀ (f : Nat) (m : Mp α) (n k : Nat), n < f → (setF f m n v).get k = if k = n then v else m.get k := by
  intro f
  induction f with
  | zero => intro m n k h; omega
  | succ f ih =>
    intro m n k h
    cases m with
    | nil =>
      simp only [setF]
      by_cases h0 : n = 0
      · subst h0; rw [if_pos rfl]; simp only [get]
        by_cases hk : k = 0
        · simp [hk]
        · simp [hk]
      · rw [if_neg h0]
        by_cases h1 : n % 2 = 1
        · rw [if_pos h1]; simp only [get]
          by_cases hk : k = 0
          · subst hk; rw [if_pos rfl, if_neg (by omega)]
          · rw [if_neg hk]
            by_cases hk1 : k % 2 = 1
            · rw [if_pos hk1, ih nil (n / 2) (k / 2) (by omega)]; simp only [get]
              by_cases e : k = n
              · subst e; simp
              · rw [if_neg e, if_neg (by omega)]
            · rw [if_neg hk1, if_neg (by intro e; subst e; omega)]
        · rw [if_neg h1]; simp only [get]
          by_cases hk : k = 0
          · subst hk; rw [if_pos rfl, if_neg (by omega)]
          · rw [if_neg hk]
            by_cases hk1 : k % 2 = 1
            · rw [if_pos hk1, if_neg (by intro e; subst e; omega)]
            · rw [if_neg hk1, ih nil (n / 2 - 1) (k / 2 - 1) (by omega)]; simp only [get]
              by_cases e : k = n
              · subst e; simp
              · rw [if_neg e, if_neg (by omega)]
    | node w l r =>
      simp only [setF]
      by_cases h0 : n = 0
      · subst h0; rw [if_pos rfl]; simp only [get]
        by_cases hk : k = 0
        · simp [hk]
        · simp [hk]
      · rw [if_neg h0]
        by_cases h1 : n % 2 = 1
        · rw [if_pos h1]; simp only [get]
          by_cases hk : k = 0
          · subst hk; rw [if_pos rfl, if_neg (by omega), if_pos rfl]
          · rw [if_neg hk]
            by_cases hk1 : k % 2 = 1
            · rw [if_pos hk1, ih l (n / 2) (k / 2) (by omega)]
              by_cases e : k = n
              · subst e; simp
              · rw [if_neg e, if_neg (by omega), if_neg hk, if_pos hk1]
            · rw [if_neg hk1, if_neg (by intro e; subst e; omega), if_neg hk, if_neg hk1]
        · rw [if_neg h1]; simp only [get]
          by_cases hk : k = 0
          · subst hk; rw [if_pos rfl, if_neg (by omega), if_pos rfl]
          · rw [if_neg hk]
            by_cases hk1 : k % 2 = 1
            · rw [if_pos hk1, if_neg (by intro e; subst e; omega), if_neg hk, if_pos hk1]
            · rw [if_neg hk1, ih r (n / 2 - 1) (k / 2 - 1) (by omega)]
              by_cases e : k = n
              · subst e; simp
              · rw [if_neg e, if_neg (by omega), if_neg hk, if_neg hk1]
theorem get_set (m : Mp α) (n k : Nat) (v : Option α) : (m.set n v).get k = if k = n then v else m.get k := get_setF v (n + 1) m n k (by omega)
theorem get_set_self (m : Mp α) (n : Nat) (v : Option α) : (m.set n v).get n = v := by rw [get_set, if_pos rfl]
theorem get_set_ne (m : Mp α) {n k : Nat} (v : Option α) (h : k ≠ n) : (m.set n v).get k = m.get k := by rw [get_set, if_neg h]
end Mp
/-! ### The code -/
inductive O | t (n : Nat) | c (v : AV) deriving Inhabited
/-- Where a variable lies: a row of the frame; on the heap; nowhere (it is never written). -/
inductive Bk | reg | heap | fz deriving DecidableEq, Inhabited
/-- What a result must be. -/
inductive Kd | i (k : IntKind) | b | s | any deriving DecidableEq, Inhabited
/-- What is compared: bools, pointers, slices, functions (with nil), structs of whole numbers, bools and strings. -/
inductive Ec | b | p | sl | f | st (ks : List Kd) deriving Inhabited
inductive Op
  | mv (x : O) | pick (c a b : O)
  | new (m : Bk) (z : List AV) | box (m : Bk) (n : Nat) (x : O)
  | build (z : List AV) (ps : List (Nat × Nat × O)) | bsl (sz len : Nat) (z : AV) (ps : List (Nat × O))
  | ld (g : Bool) (n : Nat) (a : O) | st (n : Nat) (a x : O) | nchk (x : O)
  | bin (op : BinOp) (x y : O) | eqs (neg : Bool) (c : Ec) (x y : O) | un (op : UnOp) (x : O)
  | cvi (k : IntKind) (x : O) | cvs (x : O) | cvb (x : O) | cvm (x : O)
  | fa (off : Nat) (x : O) | ia (sz : Nat) (x i : O) | iap (sz len : Nat) (x i : O) | ixs (x i : O)
  | slc (sz : Nat) (x : O) (lo hi mx : Option O)
  | mk (arr : Bool) (sz bytes : Nat) (z : AV) (l c : O)
  | ext (j : Nat) (x : O) | mkf (f : FuncId) (first cap : List O)
  | call (f : O) (args : List O)
  | die | len (str : Bool) (x : O) | cap (x : O) | app (arr : Bool) (sz bytes : Nat) (x y : O) | apz (arr : Bool) (sz bytes : Nat) (z : AV) (x n : O) | cpy (sz : Nat) (x y : O) | clr (z : AV) (x : O) | mx (neg : Bool) (xs : List O)
  deriving Inhabited
structure AOper where
  dst : Option Nat
  op : Op
  kd : Kd
  guard : Option (Nat × Bool)
  deriving Inhabited
inductive C
  | scp (body : C) (l : Nat) (rest : C) | goto (l : Nat) | skip | seq (a b : C) | rgn (ops : List AOper) (live : List Nat) | drg (ops : List (AOper × List AOper)) (live : List Nat)
  | cond (c : O) (a b : C) | blk (id : Nat) (c : C) | loop (live : List Nat) (c : C) | exit (id : Nat) | ret
  deriving Inhabited
inductive Ex | nor | exit (id : Nat) | goto (l : Nat) | ret deriving DecidableEq, Inhabited
/-- A function: its code, how many temporaries, its results (a temporary; or a cell row behind one: how many cells, as a struct), and whether what it makes is handed back as it is. -/
structure AFn where
  code : C
  nt : Nat
  res : List (Nat × Option (Bool × Nat))
  raw : Bool
  deriving Inhabited
structure St where
  objs : Mp (List AV)
  arrs : Mp (Nat × List AV)
  toks : Mp Unit
  next : Nat
/-- A frame: its temporaries; those that lead to a row of the frame; these rows; the temporaries that a region made so. -/
structure Env where
  t : Mp AV
  p : Mp (Nat × Nat)
  r : Mp (List AV)
  g : List (Nat × Nat)
inductive Ad | rg (t off : Nat) | v (x : AV)
inductive Rs | val (v : AV) | adr (t off : Nat) | no
def Env.op (E : Env) : O → Option AV
  | .t n => E.t.get n
  | .c v => some v
def Env.ops (E : Env) : List O → Option (List AV)
  | [] => some []
  | x :: r => match E.op x, E.ops r with
    | some v, some vs => some (v :: vs)
    | _, _ => none
def Env.ad (E : Env) : O → Option Ad
  | .t n => match E.p.get n with
    | some (t, off) => some (.rg t off)
    | none => (E.t.get n).map .v
  | .c v => some (.v v)
def Env.unp (E : Env) (d : Nat) : Mp (Nat × Nat) := match E.p.get d with
  | none => E.p
  | some _ => E.p.set d none
def Env.setV (E : Env) (d : Nat) (v : AV) : Env := { t := E.t.set d (some v), p := E.unp d, r := E.r, g := E.g }
def Env.setA (E : Env) (d t off : Nat) : Env := { t := E.t.set d none, p := E.p.set d (some (t, off)), r := E.r, g := if t = d then E.g else (d, t) :: E.g }
def Env.clr (E : Env) (d : Nat) : Env := { t := E.t.set d none, p := E.unp d, r := E.r, g := E.g }
/-! ### Operations -/
def wrapI (k : IntKind) (n : Int) : AV := .i k (k.wrap n)
def binI (op : BinOp) (k : IntKind) (a b : Int) : Option AV :=
  match op with
  | .add => some (wrapI k (a + b)) | .sub => some (wrapI k (a - b)) | .mul => some (wrapI k (a * b))
  | .quo => if b = 0 then none else some (wrapI k (a.tdiv b))
  | .rem => if b = 0 then none else some (.i k (a.tmod b))
  | .and => some (wrapI k (BitVec.ofInt k.bits a &&& BitVec.ofInt k.bits b).toNat)
  | .or => some (wrapI k (BitVec.ofInt k.bits a ||| BitVec.ofInt k.bits b).toNat)
  | .xor => some (wrapI k (BitVec.ofInt k.bits a ^^^ BitVec.ofInt k.bits b).toNat)
  | .eql => some (.b (a == b)) | .neq => some (.b (a != b))
  | .lss => some (.b (decide (a < b))) | .leq => some (.b (decide (a ≤ b)))
  | .gtr => some (.b (decide (a > b))) | .geq => some (.b (decide (a ≥ b)))
  | _ => none
def shI (op : BinOp) (k : IntKind) (a b : Int) : Option AV :=
  if b < 0 then none else
  match op with
  | .shl => some (wrapI k (a * 2 ^ (min b.toNat k.bits)))
  | .shr => some (.i k (a.fdiv (2 ^ (min b.toNat k.bits))))
  | _ => none
def binS (op : BinOp) (x y : List UInt8) : Option AV :=
  match op with
  | .add => if x.length + y.length < 2 ^ 40 then some (.s (x ++ y)) else none
  | .eql => some (.b (x == y)) | .neq => some (.b (!(x == y)))
  | .lss => some (.b (Op.bytesLess x y)) | .leq => some (.b (Op.bytesLess x y || x == y))
  | .gtr => some (.b (!(Op.bytesLess x y || x == y))) | .geq => some (.b (!Op.bytesLess x y))
  | _ => none
def binV (op : BinOp) (x y : AV) : Option AV :=
  match x, y with
  | .i k a, .i k' b => match op with
    | .shl => shI .shl k a b
    | .shr => shI .shr k a b
    | op => if k = k' then binI op k a b else none
  | .s a, .s b => binS op a b
  | _, _ => none
/-- Whole numbers, bools and strings, compared. -/
def eqC (k : Kd) (x y : AV) : Option Bool := match k, x, y with
  | .i k, .i k1 a, .i k2 b => if k1 = k ∧ k2 = k then some (a == b) else none
  | .b, .b a, .b b => some (a == b)
  | .s, .s a, .s b => some (a == b)
  | _, _, _ => none
def eqCs : List Kd → List AV → List AV → Option Bool
  | [], [], [] => some true
  | k :: ks, x :: xs, y :: ys => match eqC k x y, eqCs ks xs ys with
    | some a, some b => some (a && b)
    | _, _ => none
  | _, _, _ => none
def isNl : AV → Option Bool
  | .sl _ _ .nl => some true | .sl .. => some false | .ar .. => some false | _ => none
def isNp : AV → Option Bool
  | .np => some true | .rf .. => some false | .fz .. => some false | .ap .. => some false | _ => none
def isNf : AV → Option Bool
  | .nf => some true | .fn .. => some false | _ => none
def eqV (c : Ec) (x y : AV) : Option Bool := match c with
  | .b => match x, y with
    | .b a, .b b => some (a == b)
    | _, _ => none
  | .p => match isNp x, isNp y with
    | some true, some t => some t
    | some t, some true => some t
    | _, _ => none
  | .sl => match isNl x, isNl y with
    | some true, some t => some t
    | some t, some true => some t
    | _, _ => none
  | .f => match isNf x, isNf y with
    | some true, some t => some t
    | some t, some true => some t
    | _, _ => none
  | .st ks => match x, y with
    | .ag xs, .ag ys => eqCs ks xs ys
    | _, _ => none
def unV (op : UnOp) (x : AV) : Option AV :=
  match op, x with
  | .neg, .i k n => some (wrapI k (0 - n))
  | .xor, .i k n => binI .xor k (if k.signed then -1 else k.max) n
  | .not, .b b => some (.b (!b))
  | _, _ => none
def cut (cs : List AV) (off n : Nat) : Option (List AV) := if off + n ≤ cs.length then some ((cs.drop off).take n) else none
def paste (cs : List AV) (off : Nat) (vs : List AV) : Option (List AV) := if off + vs.length ≤ cs.length then some (cs.take off ++ vs ++ cs.drop (off + vs.length)) else none
/-- The value of n cells: a struct, or the one cell. -/
def val (g : Bool) (n : Nat) (cs : List AV) : Option AV :=
  if g then some (.ag cs) else match cs with
    | [v] => if n = 1 then some v else none
    | _ => none
/-- An element of a slice has so many cells. -/
def elemV (sz : Nat) (v : AV) : Bool := v.cells.length == sz
def AV.isTu : AV → Bool | .tu _ => true | _ => false
/-- The cells behind an address. -/
def ldC (E : Env) (S : St) (n : Nat) (a : Ad) : Option (List AV) :=
  match a with
  | .rg t off => match E.r.get t with | some cs => cut cs off n | none => none
  | .v (.rf o off) => match S.objs.get o with | some cs => cut cs off n | none => none
  | .v (.fz cs) => cut cs 0 n
  | .v (.ap a idx off) => match S.arrs.get a with
    | some (_, xs) => match xs[idx]? with | some v => cut v.cells off n | none => none
    | none => none
  | _ => none
/-- An element with other cells. -/
def reCells (v : AV) (cs : List AV) : Option AV := match v with
  | .ag _ => some (.ag cs)
  | _ => match cs with
    | [w] => some w
    | _ => none
def stV (E : Env) (S : St) (n : Nat) (a : Ad) (vs : List AV) : Option (Env × St) :=
  if vs.length ≠ n then none else
  match a with
  | .rg t off => match E.r.get t with
    | some cs => match paste cs off vs with | some cs' => some ({ t := E.t, p := E.p, r := E.r.set t (some cs'), g := E.g }, S) | none => none
    | none => none
  | .v (.rf o off) => match S.objs.get o with
    | some cs => match paste cs off vs with | some cs' => some (E, { objs := S.objs.set o (some cs'), arrs := S.arrs, toks := S.toks, next := S.next }) | none => none
    | none => none
  | .v (.ap a idx off) => match S.arrs.get a with
    | some (sz, xs) => match xs[idx]? with
      | some w => match paste w.cells off vs with
        | some cs' => match reCells w cs' with
          | some w' => some (E, { objs := S.objs, arrs := S.arrs.set a (some (sz, xs.set idx w')), toks := S.toks, next := S.next })
          | none => none
        | none => none
      | none => none
    | none => none
  | _ => none
def nchkV : Ad → Option Rs
  | .rg t off => some (.adr t off)
  | .v (.rf o off) => some (.val (.rf o off)) | .v (.fz cs) => some (.val (.fz cs)) | .v (.ap a i o) => some (.val (.ap a i o)) | .v (.fn f x y) => some (.val (.fn f x y)) | _ => none
def faV (off : Nat) : Ad → Option Rs
  | .rg t k => some (.adr t (k + off))
  | .v (.rf o k) => some (.val (.rf o (k + off))) | .v (.fz cs) => some (.val (.fz (cs.drop off))) | .v (.ap a i k) => some (.val (.ap a i (k + off))) | _ => none
def iaV (S : St) (sz : Nat) (x : AV) (n : Int) : Option AV :=
  if n < 0 then none else match x with
  | .sl s xs _ => if s = sz then (match xs[n.toNat]? with | some v => some (.fz v.cells) | none => none) else none
  | .ar a off len _ _ => match S.arrs.get a with
    | some (s, _) => if s = sz ∧ n.toNat < len then some (.ap a (off + n.toNat) 0) else none
    | none => none
  | _ => none
def ixsV (x : AV) (n : Int) : Option AV :=
  match x with
  | .s b => if n < 0 then none else match b[n.toNat]? with | some c => some (.i .u8 c.toNat) | none => none
  | _ => none
def natOf : AV → Option Nat | .i _ n => if n < 0 then none else some n.toNat | _ => none
def intOf : AV → Option Int | .i _ n => some n | _ => none
def bnd (E : Env) (o : Option O) : Option (Option Nat) := match o with
  | none => some none
  | some o => match E.op o with
    | some v => (natOf v).map some
    | none => none
def slcV (S : St) (sz : Nat) (x : AV) (lo : Nat) (hi mx : Option Nat) : Option AV :=
  match x with
  | .s b => if sz ≠ 0 ∨ mx.isSome then none else if lo ≤ hi.getD b.length ∧ hi.getD b.length ≤ b.length then some (.s ((b.take (hi.getD b.length)).drop lo)) else none
  | .sl s xs t => if sz = 0 then none else if t = .nl then (if lo = 0 ∧ hi.getD 0 = 0 ∧ mx.getD 0 = 0 then some (.sl s [] .nl) else none) else
    if s = sz ∧ lo ≤ hi.getD xs.length ∧ hi.getD xs.length ≤ mx.getD xs.length ∧ mx.getD xs.length ≤ xs.length then some (.sl s ((xs.take (hi.getD xs.length)).drop lo) (if mx.isSome then .no else if hi.getD xs.length = xs.length then t else .no)) else none
  | .ar a off len cap t => match S.arrs.get a with
    | some (s, _) => if s = sz ∧ lo ≤ hi.getD len ∧ hi.getD len ≤ mx.getD cap ∧ mx.getD cap ≤ cap then some (.ar a (off + lo) (hi.getD len - lo) (mx.getD cap - lo) (if mx.isSome then .ex else t)) else none
    | none => none
  | _ => none
def lenV (str : Bool) : AV → Option Nat
  | .s b => if str then some b.length else none | .sl _ xs _ => if str then none else some xs.length | .ar _ _ len _ _ => if str then none else some len | _ => none
def capV : AV → Option Nat
  | .sl _ _ .nl => some 0 | .sl _ xs .ex => some xs.length | .ar _ _ _ c .ex => some c | _ => none
/-- What a slice holds. -/
def cont (S : St) : AV → Option (List AV)
  | .sl _ xs _ => some xs
  | .ar a off len _ _ => match S.arrs.get a with
    | some (_, xs) => if off + len ≤ xs.length then some ((xs.drop off).take len) else none
    | none => none
  | .s b => some (b.map fun c => .i .u8 c.toNat)
  | _ => none
def room (n bytes : Nat) : Bool := decide (n * bytes ≤ 2 ^ 46)
def unTok (S : St) : Tk → Mp Unit
  | .id k => S.toks.set k none
  | _ => S.toks
/-- Behind an append whose capacity is open: a fresh row (one's own, or one that is read). -/
def grown (S : St) (arr : Bool) (sz : Nat) (zs : List AV) (drop : Tk) : AV × St :=
  if arr then (.ar (S.next + 1) 0 zs.length zs.length (.id S.next), { objs := S.objs, arrs := S.arrs.set (S.next + 1) (some (sz, zs)), toks := (unTok S drop).set S.next (some ()), next := S.next + 2 })
  else (.sl sz zs (.id S.next), { objs := S.objs, arrs := S.arrs, toks := (unTok S drop).set S.next (some ()), next := S.next + 1 })
def killA (S : St) (a : Nat) : St := { objs := S.objs, arrs := S.arrs.set a none, toks := S.toks, next := S.next }
def setA (S : St) (a sz : Nat) (xs : List AV) : St := { objs := S.objs, arrs := S.arrs.set a (some (sz, xs)), toks := S.toks, next := S.next }
def appV (S : St) (arr : Bool) (sz bytes : Nat) (x : AV) (ys : List AV) : Option (AV × St) :=
  if !(ys.all (elemV sz)) then none else
  match x with
  | .sl sz' xs t => if ys.length = 0 then some (.sl sz' xs t, S) else if !room (xs.length + ys.length) bytes then none else match t with
    | .nl => some (grown S arr sz ys .no)
    | .ex => if sz' = sz then some (grown S arr sz (xs ++ ys) .no) else none
    | .id k => if sz' = sz ∧ arr = false ∧ (S.toks.get k).isSome then some (grown S false sz (xs ++ ys) (.id k)) else none
    | .no => none
  | .ar a off len cap t => if ys.length = 0 then some (.ar a off len cap t, S) else match S.arrs.get a with
    | some (sz', all) =>
      if sz' ≠ sz ∨ all.length < off + len then none else
      if len + ys.length ≤ cap then
        if off + cap ≤ all.length then some (.ar a off (len + ys.length) cap t, setA S a sz (all.take (off + len) ++ ys ++ all.drop (off + len + ys.length))) else none
      else if !arr || !room (len + ys.length) bytes then none else
      match t with
      | .ex => some (grown (killA S a) true sz ((all.drop off).take len ++ ys) .no)
      | .id k => if off + len = all.length ∧ (S.toks.get k).isSome then some (grown (killA S a) true sz ((all.drop off).take len ++ ys) (.id k)) else none
      | _ => none
    | none => none
  | _ => none
def apzV (S : St) (arr : Bool) (sz bytes : Nat) (z x : AV) (n : Nat) : Option (AV × St) :=
  match x with
  | .sl s0 _ .nl => if n = 0 then some (.sl s0 [] .nl, S) else if room n bytes && elemV sz z then some (grown S arr sz (List.replicate n z) .no) else none
  | _ => none
def cpyV (S : St) (sz : Nat) (x : AV) (ys : List AV) : Option (AV × St) :=
  if !(ys.all (elemV sz)) then none else
  match x with
  | .ar a off len _ _ => match S.arrs.get a with
    | some (sz', all) =>
      if sz' = sz ∧ off + min ys.length len ≤ all.length then some (.i .i64 (min ys.length len : Nat), setA S a sz (all.take off ++ ys.take (min ys.length len) ++ all.drop (off + min ys.length len))) else none
    | none => none
  | .sl _ xs _ => if xs.length = 0 ∨ ys.length = 0 then some (.i .i64 0, S) else none
  | _ => none
def clrV (S : St) (z : AV) (x : AV) : Option St :=
  match x with
  | .sl _ xs _ => if xs.length = 0 then some S else none
  | .ar a off len _ _ => match S.arrs.get a with
    | some (sz, all) => if off + len ≤ all.length ∧ elemV sz z then some (setA S a sz (all.take off ++ List.replicate len z ++ all.drop (off + len))) else none
    | none => none
  | _ => none
def mx2 (neg : Bool) (a b : AV) : Option AV := match a, b with
  | .i k p, .i k' q => if k = k' then some (.i k (if neg then (if q < p then q else p) else (if q > p then q else p))) else none
  | _, _ => none
def mxV (neg : Bool) : AV → List AV → Option AV
  | x, [] => some x
  | x, y :: r => match mx2 neg x y with | some z => mxV neg z r | none => none
def bytesOf : List AV → Option (List UInt8)
  | [] => some []
  | .i .u8 n :: r => if 0 ≤ n ∧ n < 256 then (match bytesOf r with | some t => some (UInt8.ofNat n.toNat :: t) | none => none) else none
  | _ => none
def buildV (E : Env) (z : List AV) : List (Nat × Nat × O) → Option (List AV)
  | [] => some z
  | (off, n, x) :: r => match E.op x with
    | some v => if v.cells.length = n ∧ v.isTu = false then (match paste z off v.cells with | some z' => buildV E z' r | none => none) else none
    | none => none
def bslV (E : Env) (sz : Nat) : List AV → List (Nat × O) → Option (List AV)
  | xs, [] => some xs
  | xs, (j, x) :: r => match E.op x with
    | some v => if j < xs.length ∧ elemV sz v ∧ v.isTu = false then bslV E sz (xs.set j v) r else none
    | none => none
/-- What a frozen row's right to append is. -/
def frzTk (b : Bool) : Tk → Tk | .id k => if b then .id k else .no | _ => .no
-- out of a row of one's own, one that is read
mutual
def frz : Nat → St → AV → Option (AV × St)
  | 0, _, _ => none
  | f + 1, S, .ar a off len _ t => match S.arrs.get a with
    | some (sz, xs) => if off + len ≤ xs.length then
        match frzs f (killA S a) ((xs.drop off).take len) with
        | some (ys, S') => some (.sl sz ys (frzTk (off + len == xs.length) t), S')
        | none => none
      else none
    | none => none
  | f + 1, S, .ag cs => match frzs f S cs with | some (ys, S') => some (.ag ys, S') | none => none
  | f + 1, S, .tu cs => match frzs f S cs with | some (ys, S') => some (.tu ys, S') | none => none
  | _ + 1, S, v => some (v, S)
def frzs : Nat → St → List AV → Option (List AV × St)
  | 0, _, _ => none
  | _ + 1, S, [] => some ([], S)
  | f + 1, S, v :: r => match frz f S v with
    | some (v', S1) => match frzs f S1 r with | some (r', S2) => some (v' :: r', S2) | none => none
    | none => none
end
/-! ### One operation, with what follows: into an option (to be run) or into a condition (to be proved) -/
universe u
section
variable {β : Sort u} (no : β)
def oE {α : Type} : Option α → (α → β) → β
  | some a, f => f a
  | none, _ => no
def asI (k : IntKind) : AV → Option Int | .i k' n => if k' = k then some n else none | _ => none
def asB : AV → Option Bool | .b x => some x | _ => none
def asS : AV → Option (List UInt8) | .s x => some x | _ => none
def castK (kd : Kd) (v : AV) (k : AV → β) : β := match kd with
  | .i kk => oE no (asI kk v) fun n => k (.i kk n)
  | .b => oE no (asB v) fun x => k (.b x)
  | .s => oE no (asS v) fun x => k (.s x)
  | .any => k v
def stepOp (E : Env) (S : St) (d : Nat) (op : Op) (k : Rs → Env → St → β) : β :=
  match op with
  | .mv x => match x with
    | .t n => match E.t.get n with
      | some v => k (.val v) E S
      | none => k .no E S
    | .c v => k (.val v) E S
  | .pick c a b => oE no ((E.op c).bind asB) fun t => match t with
    | true => oE no (E.op a) fun v => k (.val v) E S
    | false => oE no (E.op b) fun v => k (.val v) E S
  | .new m z => match m with
    | .reg => match E.g.any (fun p => p.2 == d) with
      | true => no
      | false => k (.adr d 0) { t := E.t, p := E.unp d, r := E.r.set d (some z), g := E.g } S
    | .heap => k (.val (.rf S.next 0)) E { objs := S.objs.set S.next (some z), arrs := S.arrs, toks := S.toks, next := S.next + 1 }
    | .fz => k (.val (.fz z)) E S
  | .box m n x => oE no (E.op x) fun v => match decide (v.cells.length = n) && !v.isTu with
    | false => no
    | true => match m with
      | .reg => match E.g.any (fun p => p.2 == d) with
        | true => no
        | false => k (.adr d 0) { t := E.t, p := E.unp d, r := E.r.set d (some v.cells), g := E.g } S
      | .heap => k (.val (.rf S.next 0)) E { objs := S.objs.set S.next (some v.cells), arrs := S.arrs, toks := S.toks, next := S.next + 1 }
      | .fz => k (.val (.fz v.cells)) E S
  | .build z ps => oE no (buildV E z ps) fun cs => k (.val (.ag cs)) E S
  | .bsl sz len z ps => oE no (bslV E sz (List.replicate len z) ps) fun xs => k (.val (.sl sz xs .ex)) E S
  | .ld g n a => oE no (E.ad a) fun a => oE no (ldC E S n a) fun cs => oE no (val g n cs) fun v => k (.val v) E S
  | .st n a x => oE no (E.ad a) fun a => oE no (E.op x) fun v => match v.isTu with
    | true => no
    | false => oE no (stV E S n a v.cells) fun p => k .no p.1 p.2
  | .nchk x => oE no (E.ad x) fun a => oE no (nchkV a) fun r => k r E S
  | .bin op x y => oE no (E.op x) fun v => oE no (E.op y) fun w => oE no (binV op v w) fun r => k (.val r) E S
  | .eqs neg c x y => oE no (E.op x) fun v => oE no (E.op y) fun w => oE no (eqV c v w) fun t => k (.val (.b (match neg with | true => !t | false => t))) E S
  | .un op x => oE no (E.op x) fun v => oE no (unV op v) fun r => k (.val r) E S
  | .cvi kk x => oE no ((E.op x).bind intOf) fun n => k (.val (wrapI kk n)) E S
  | .cvs x => oE no (E.op x) fun v => match v with
    | .s _ => no
    | v => oE no (cont S v) fun xs => oE no (bytesOf xs) fun s => k (.val (.s s)) E S
  | .cvb x => oE no ((E.op x).bind asS) fun s => match room s.length 1 with
    | true => k (.val (.sl 1 (s.map fun c => .i .u8 c.toNat) .no)) E S
    | false => no
  | .cvm x => oE no (E.op x) fun v => match v with
    | .sl sz xs .ex => k (.val (.sl sz xs .ex)) E S
    | _ => no
  | .fa off x => oE no (E.ad x) fun a => oE no (faV off a) fun r => k r E S
  | .ia sz x j => oE no (E.op x) fun v => oE no ((E.op j).bind intOf) fun n => oE no (iaV S sz v n) fun r => k (.val r) E S
  | .iap sz len x j => oE no (E.ad x) fun a => oE no ((E.op j).bind intOf) fun n => match decide (0 ≤ n ∧ n < len) with
    | true => oE no (faV (n.toNat * sz) a) fun r => k r E S
    | false => no
  | .ixs x j => oE no (E.op x) fun v => oE no ((E.op j).bind intOf) fun n => oE no (ixsV v n) fun r => k (.val r) E S
  | .slc sz x lo hi mx => oE no (E.op x) fun v => oE no (bnd E lo) fun lo => oE no (bnd E hi) fun hi => oE no (bnd E mx) fun mx => match hi, mx with
    | none, some _ => no
    | hi, mx => oE no (slcV S sz v (lo.getD 0) hi mx) fun r => k (.val r) E S
  | .mk arr sz bytes z l c => oE no ((E.op l).bind intOf) fun l => oE no ((E.op c).bind intOf) fun c => match decide (0 ≤ l ∧ l ≤ c) && room c.toNat bytes with
    | false => no
    | true => match arr with
      | true => k (.val (.ar S.next 0 l.toNat c.toNat .ex)) E { objs := S.objs, arrs := S.arrs.set S.next (some (sz, List.replicate c.toNat z)), toks := S.toks, next := S.next + 1 }
      | false => match decide (l = c) with
        | true => k (.val (.sl sz (List.replicate l.toNat z) .ex)) E S
        | false => no
  | .ext j x => oE no (E.op x) fun v => match v with
    | .tu vs => oE no (vs[j]?) fun r => k (.val r) E S
    | _ => no
  | .mkf f first cap => oE no (E.ops first) fun a => oE no (E.ops cap) fun b => k (.val (.fn f a b)) E S
  | .call .. => no
  | .die => no
  | .apz arr sz bytes z x y => oE no (E.op x) fun v => oE no ((E.op y).bind natOf) fun n => oE no (apzV S arr sz bytes z v n) fun p => k (.val p.1) E p.2
  | .len str x => oE no (E.op x) fun v => oE no (lenV str v) fun n => k (.val (.i .i64 n)) E S
  | .cap x => oE no (E.op x) fun v => oE no (capV v) fun n => k (.val (.i .i64 n)) E S
  | .app arr sz bytes x y => oE no (E.op x) fun v => oE no (E.op y) fun w => oE no (cont S w) fun ys => oE no (appV S arr sz bytes v ys) fun p => k (.val p.1) E p.2
  | .cpy sz x y => oE no (E.op x) fun v => oE no (E.op y) fun w => oE no (cont S w) fun ys => oE no (cpyV S sz v ys) fun p => k (.val p.1) E p.2
  | .clr z x => oE no (E.op x) fun v => oE no (clrV S z v) fun S' => k .no E S'
  | .mx neg xs => oE no (E.ops xs) fun vs => match vs with
    | v :: r => oE no (mxV neg v r) fun z => k (.val z) E S
    | [] => no
def putK (E : Env) (d : Option Nat) (kd : Kd) (r : Rs) (k : Env → β) : β := match d with
  | none => k E
  | some d => match r with
    | .val v => castK no kd v fun v => k (E.setV d v)
    | .adr t off => k (E.setA d t off)
    | .no => k (E.clr d)
def wants (E : Env) : Option (Nat × Bool) → Option Bool
  | none => some true
  | some (g, w) => match E.t.get g with
    | some (.b x) => some (match w with | true => x | false => !x)
    | _ => none
def drop (E : Env) : Option Nat → Env
  | none => E
  | some d => E.clr d
abbrev CallK (β : Sort u) := FuncId → List AV → St → (AV → St → β) → β
def stepCall (call : CallK β) (E : Env) (S : St) (f : O) (args : List O) (k : AV → St → β) : β :=
  oE no (E.op f) fun v => match v with
  | .fn g first cap => oE no (E.ops args) fun as => call g (first ++ as ++ cap) S k
  | _ => no
/-- An operation with its guard. -/
def stepG (call : CallK β) (o : AOper) (E : Env) (S : St) (k : Env → St → β) : β :=
  oE no (wants E o.guard) fun t => match t with
  | false => k (drop E o.dst) S
  | true => match o.op with
    | .call f args => stepCall no call E S f args fun v S' => putK no E o.dst o.kd (.val v) fun E' => k E' S'
    | op => stepOp no E S (o.dst.getD 0) op fun r E' S' => putK no E' o.dst o.kd r fun E'' => k E'' S'
def runOps (call : CallK β) : List AOper → Env → St → (Env → St → β) → β
  | [], E, S, k => k E S
  | o :: r, E, S, k => stepG no call o E S fun E' S' => runOps call r E' S' k
end
/-- What was read is still what would be read. -/
def again (E : Env) (S : St) (o : AOper) : Bool :=
  match wants E o.guard with
  | some true => stepOp false E S (o.dst.getD 0) o.op fun r _ _ => match r, o.dst with
    | .val v, some d => castK false o.kd v fun v => match E.t.get d with | some w => AV.beq v w | none => false
    | _, _ => false
  | some false => true
  | none => false
section
variable {β : Sort u} (no : β)
def runDr (call : CallK β) : List (AOper × List AOper) → Env → St → (Env → St → β) → β
  | [], E, S, k => k E S
  | (o, l) :: r, E, S, k => stepG no call o E S fun E' S' => match l.all (again E' S') with
    | true => runDr call r E' S' k
    | false => no
end
def keepT (E : Env) : List Nat → Mp AV → Mp AV
  | [], m => m
  | n :: r, m => match E.t.get n with
    | some v => keepT E r (m.set n (some v))
    | none => keepT E r m
def keepP (E : Env) : List Nat → Mp (Nat × Nat) → Mp (Nat × Nat)
  | [], m => m
  | n :: r, m => match E.p.get n with
    | some (t, off) => if t = n ∧ off = 0 then keepP E r (m.set n (some (t, off))) else keepP E r m
    | none => keepP E r m
def keepR (E : Env) : List Nat → Mp (List AV) → Mp (List AV)
  | [], m => m
  | n :: r, m => match E.r.get n with
    | some v => keepR E r (m.set n (some v))
    | none => keepR E r m
def Env.keep (E : Env) (live : List Nat) : Env := { t := keepT E live .nil, p := keepP E live .nil, r := keepR E live .nil, g := [] }
abbrev Rec := FuncId → List AV → St → Option (AV × St)
def callE {α : Type} (rc : Rec) : CallK (Option α) := fun f as S k => match rc f as S with
  | some (v, S') => k v S'
  | none => none
def evC (rc : Rec) : Nat → C → Env → St → Option (Ex × Env × St)
  | 0, _, _, _ => none
  | _ + 1, .skip, E, S => some (.nor, E, S)
  | n + 1, .seq a b, E, S => match evC rc n a E S with
    | some (.nor, E', S') => evC rc n b E' S'
    | r => r
  | _ + 1, .rgn ops live, E, S => runOps none (callE rc) ops E S fun E' S' => some (.nor, E'.keep live, S')
  | _ + 1, .drg ops live, E, S => runDr none (callE rc) ops E S fun E' S' => some (.nor, E'.keep live, S')
  | n + 1, .cond c a b, E, S => match E.op c with
    | some (.b t) => if t then evC rc n a E S else evC rc n b E S
    | _ => none
  | n + 1, .blk id c, E, S => match evC rc n c E S with
    | some (.exit j, E', S') => some (if j = id then .nor else .exit j, E', S')
    | r => r
  | n + 1, .loop live c, E, S => match evC rc n c (E.keep live) S with
    | some (.nor, E', S') => evC rc n (.loop live c) E' S'
    | r => r
  | n + 1, .scp c l r, E, S => match evC rc n c E S with
    | some (.goto j, E', S') => if j = l then (match evC rc n r E' S' with | some (.goto _, _, _) => none | q => q) else none
    | r => r
  | _ + 1, .goto l, E, S => some (.goto l, E, S)
  | _ + 1, .exit id, E, S => some (.exit id, E, S)
  | _ + 1, .ret, E, S => some (.ret, E, S)
structure Cfg where
  fd : FuncId → Option AFn
  ext : FuncId → List AV → St → Option (AV × St)
def resV (E : Env) (S : St) : List (Nat × Option (Bool × Nat)) → Option (List AV)
  | [] => some []
  | (t, none) :: r => match E.t.get t, resV E S r with
    | some v, some vs => some (v :: vs)
    | _, _ => none
  | (t, some (g, n)) :: r => match E.ad (.t t) with
    | some a => match ldC E S n a with
      | some cs => match val g n cs, resV E S r with
        | some v, some vs => some (v :: vs)
        | _, _ => none
      | none => none
    | none => none
def argsT : List AV → Nat → Mp AV → Mp AV
  | [], _, m => m
  | v :: r, k, m => argsT r (k + 1) (m.set k (some v))
def one : List AV → AV | [v] => v | vs => .tu vs
def env0 (args : List AV) : Env := { t := argsT args 0 .nil, p := .nil, r := .nil, g := [] }
def evF (K : Cfg) : Nat → FuncId → List AV → St → Option (AV × St)
  | 0, _, _, _ => none
  | n + 1, f, args, S => match K.fd f with
    | none => K.ext f args S
    | some d => if args.length ≤ d.nt then
        match evC (evF K n) n d.code (env0 args) S with
        | some (.exit _, _, _) => none
        | some (.goto _, _, _) => none
        | some (_, E, S') => match resV E S' d.res with
          | some vs => if d.raw then some (one vs, S') else frz 1000 S' (one vs)
          | none => none
        | none => none
      else none
end Go.Ab
