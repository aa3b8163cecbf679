/- The functions that compare images: their conditions. -/
import Derived.Test.YtmikgopohkbbfaaS1C0
import Derived.Test.YtmikgopohkbbfaaS1C1
import Derived.Test.YtmikgopohkbbfaaS1C2
import Derived.Test.YtmikgopohkbbfaaW2
namespace Go.Ab
def tb : Nat → Option AFn
  | 3 => some d3
  | 4 => some d4
  | 5 => some d5
  | 6 => some d6
  | 7 => some d7
  | 8 => some d8
  | 9 => some d9
  | 10 => some d10
  | 11 => some d11
  | 12 => some d12
  | 13 => some d13
  | 14 => some d14
  | 15 => some d15
  | 16 => some d16
  | 17 => some d17
  | 18 => some d18
  | 19 => some d19
  | 20 => some d20
  | 21 => some d21
  | 22 => some d22
  | 23 => some d23
  | 24 => some d24
  | 25 => some d25
  | 26 => some d26
  | 27 => some d27
  | 28 => some d28
  | 29 => some d29
  | 30 => some d30
  | 31 => some d31
  | 32 => some d32
  | 33 => some d33
  | 34 => some d34
  | 35 => some d35
  | 36 => some d36
  | 37 => some d37
  | 38 => some d38
  | 39 => some d39
  | 40 => some d40
  | 41 => some d41
  | 42 => some d42
  | 43 => some d43
  | 44 => some d44
  | 45 => some d45
  | 46 => some d46
  | 47 => some d47
  | 48 => some d48
  | 49 => some d49
  | 50 => some d50
  | _ => none
def KK : Cfg := { fd := tb, ext := fun _ _ _ => none }
def S00 : St := { objs := .nil, arrs := .nil, toks := .nil, next := 0 }
set_option maxRecDepth 100000
section
variable {S : St} {Q : AV → St → Prop} {xs ys zs ws : List AV} {t1 t2 t3 t4 : Tk} {i j l m : Int}
theorem w14 : wP KK d14.code (outs d14 Q) (env0 [.sl 1 xs t1, .sl 1 ys t2]) S = (oE False (bytesOf xs) fun a => oE False (bytesOf ys) fun b => Q (.b (a == b)) S) := by kernel_rfl
theorem w13 : wP KK d13.code (outs d13 Q) (env0 [.ag [.i .i64 i, .sl 1 xs t1], .ag [.i .i64 j, .sl 1 ys t2]]) S = (match i == j with
      | true => TF KK 14 [.sl 1 xs t1, .sl 1 ys t2] S fun v S' => oE False (asB v) fun b => Q (.b b) S'
      | false => Q (.b false) S) := by kernel_rfl
theorem w7 : wP KK d7.code (outs d7 Q) (env0 [.ag [.sl 1 xs t1, .sl 2 ys t2, .i .i64 l], .ag [.sl 1 zs t3, .sl 2 ws t4, .i .i64 m]]) S = (TF KK 14 [.sl 1 xs t1, .sl 1 zs t3] S fun v S' => oE False (asB v) fun b => match b with
      | false => Q (.b false) S'
      | true => match l == m with
        | false => Q (.b false) S'
        | true => TF KK 15 [.sl 2 ys t2, .sl 2 ws t4, .fn 13 [] []] S' fun v S' => oE False (asB v) fun b => Q (.b b) S') := by kernel_rfl
def p5 : List Bool := [true, true, false, true, false]
def E5 (xs ys : List AV) (t1 t2 : Tk) (l i : Int) : Env := mkE [(3, .i .i64 i)] [(1, [.sl 1 xs t1, .sl 2 ys t2, .i .i64 l])]
theorem w5 : wP KK d5.code (outs d5 Q) (env0 [.ag [.sl 1 xs t1, .sl 2 ys t2, .i .i64 l]]) S = (match !decide (((xs.length : Nat) : Int) > 1000) with
  | false => Q (.b false) S
  | true => match decide (((ys.length : Nat) : Int) > 10) with
    | true => Q (.b false) S
    | false => TC KK (d5.code.at p5) (E5 xs ys t1 t2 l 0) S (d5.code.kt KK p5 (outs d5 Q))) := by kernel_rfl
theorem w5b : rnd KK (d5.code.at p5) (E5 xs ys t1 t2 l i) S (d5.code.kt KK p5 (outs d5 Q)) = (match decide (i < ((ys.length : Nat) : Int)) with
  | true => ∃ c : AV, (2 = 2 ∧ 0 ≤ i ∧ ys[i.toNat]? = some c) ∧ ∃ v, (1 = 1 ∧ (c.cells.drop 1).head? = some v) ∧ oE False (lenV false v) fun n => match decide (((n : Nat) : Int) > 1000) with
    | true => Q (.b false) S
    | false => TC KK (d5.code.at p5) (E5 xs ys t1 t2 l (IntKind.i64.wrap (i + 1))) S (d5.code.kt KK p5 (outs d5 Q))
  | false => Q (.b true) S) := by kernel_rfl
def p15 : List Bool := [true, true, false, true, false]
def E15 (ys ws : List AV) (t2 t4 : Tk) (n i : Int) : Env := mkE [(17, .i .i64 i), (16, .i .i64 n), (15, .sl 2 ys t2), (1, .sl 2 ws t4), (2, .fn 13 [] [])] []
theorem w15 : wP KK d15.code (outs d15 Q) (env0 [.sl 2 ys t2, .sl 2 ws t4, .fn 13 [] []]) S = (match ((ys.length : Nat) : Int) != ((ws.length : Nat) : Int) with
  | true => Q (.b false) S
  | false => TC KK (d15.code.at p15) (E15 ys ws t2 t4 ys.length 0) S (d15.code.kt KK p15 (outs d15 Q))) := by kernel_rfl
theorem w15b : rnd KK (d15.code.at p15) (E15 ys ws t2 t4 j i) S (d15.code.kt KK p15 (outs d15 Q)) = (match decide (i < j) with
  | true => ∃ c : AV, (2 = 2 ∧ 0 ≤ i ∧ ys[i.toNat]? = some c) ∧ ∃ a0, ∃ a1, cut c.cells 0 2 = some [a0, a1] ∧ ∃ e : AV, (2 = 2 ∧ 0 ≤ i ∧ ws[i.toNat]? = some e) ∧ ∃ b0, ∃ b1, cut e.cells 0 2 = some [b0, b1] ∧
      TF KK 13 [.ag [a0, a1], .ag [b0, b1]] S fun v S' => oE False (asB v) fun b => match !b with
        | true => Q (.b false) S'
        | false => TC KK (d15.code.at p15) (E15 ys ws t2 t4 j (IntKind.i64.wrap (i + 1))) S' (d15.code.kt KK p15 (outs d15 Q))
  | false => Q (.b true) S) := by kernel_rfl
def p6 : List Bool := [true, true, false, true, false]
def E6 (xs ys zs ws : List AV) (t1 t2 t3 t4 : Tk) (l m i : Int) : Env := mkE [(5, .i .i64 i)] [(2, [.sl 1 xs t1, .sl 2 ys t2, .i .i64 l]), (3, [.sl 1 zs t3, .sl 2 ws t4, .i .i64 m])]
theorem w6 : wP KK d6.code (outs d6 Q) (env0 [.ag [.sl 1 xs t1, .sl 2 ys t2, .i .i64 l], .ag [.sl 1 zs t3, .sl 2 ws t4, .i .i64 m]]) S = (oE False (bytesOf xs) fun a => oE False (bytesOf zs) fun b => match !(!(a == b)) with
  | false => Q (.b false) S
  | true => match !(l != m) with
    | false => Q (.b false) S
    | true => match ((ys.length : Nat) : Int) != ((ws.length : Nat) : Int) with
      | true => Q (.b false) S
      | false => TC KK (d6.code.at p6) (E6 xs ys zs ws t1 t2 t3 t4 l m 0) S (d6.code.kt KK p6 (outs d6 Q))) := by kernel_rfl
theorem w6b : rnd KK (d6.code.at p6) (E6 xs ys zs ws t1 t2 t3 t4 l m i) S (d6.code.kt KK p6 (outs d6 Q)) = (match decide (i < ((ys.length : Nat) : Int)) with
  | true => ∃ c : AV, (2 = 2 ∧ 0 ≤ i ∧ ys[i.toNat]? = some c) ∧ ∃ x, (1 = 1 ∧ c.cells.head? = some (.i .i64 x)) ∧ ∃ e : AV, (2 = 2 ∧ 0 ≤ i ∧ ws[i.toNat]? = some e) ∧ ∃ y, (1 = 1 ∧ e.cells.head? = some (.i .i64 y)) ∧ match !(x != y) with
    | false => Q (.b false) S
    | true => ∃ c : AV, (2 = 2 ∧ 0 ≤ i ∧ ys[i.toNat]? = some c) ∧ ∃ v, (1 = 1 ∧ (c.cells.drop 1).head? = some v) ∧ oE False (sliceC S v) fun vs => oE False (bytesOf vs) fun a => ∃ e : AV, (2 = 2 ∧ 0 ≤ i ∧ ws[i.toNat]? = some e) ∧ ∃ w, (1 = 1 ∧ (e.cells.drop 1).head? = some w) ∧ oE False (sliceC S w) fun us => oE False (bytesOf us) fun b => match !(a == b) with
      | true => Q (.b false) S
      | false => TC KK (d6.code.at p6) (E6 xs ys zs ws t1 t2 t3 t4 l m (IntKind.i64.wrap (i + 1))) S (d6.code.kt KK p6 (outs d6 Q))
  | false => Q (.b true) S) := by kernel_rfl
theorem w3 : wP KK d3.code (outs d3 Q) (env0 [.ag [.sl 1 xs t1, .sl 2 ys t2, .i .i64 l], .ag [.sl 1 zs t3, .sl 2 ws t4, .i .i64 m]]) S = (
  TF KK 4 [] S fun v S => oE False (asB v) fun h => TF KK 5 [.ag [.sl 1 xs t1, .sl 2 ys t2, .i .i64 l]] S fun v S => oE False (asB v) fun s1 => match s1 with
  | false => Q (.b h) S
  | true => TF KK 5 [.ag [.sl 1 zs t3, .sl 2 ws t4, .i .i64 m]] S fun v S => oE False (asB v) fun s2 => match !s2 with
    | true => Q (.b h) S
    | false => TF KK 6 [.ag [.sl 1 xs t1, .sl 2 ys t2, .i .i64 l], .ag [.sl 1 zs t3, .sl 2 ws t4, .i .i64 m]] S fun v S => oE False (asB v) fun is => match h with
      | false => Q (.b false) S
      | true => TF KK 7 [.ag [.sl 1 xs t1, .sl 2 ys t2, .i .i64 l], .ag [.sl 1 zs t3, .sl 2 ws t4, .i .i64 m]] S fun v S => oE False (asB v) fun c1 => match c1 == is with
        | false => Q (.b false) S
        | true => TF KK 7 [.ag [.sl 1 zs t3, .sl 2 ws t4, .i .i64 m], .ag [.sl 1 xs t1, .sl 2 ys t2, .i .i64 l]] S fun v S => oE False (asB v) fun c2 => match c2 == is with
          | false => Q (.b false) S
          | true => TF KK 7 [.ag [.sl 1 xs t1, .sl 2 ys t2, .i .i64 l], .ag [.sl 1 xs t1, .sl 2 ys t2, .i .i64 l]] S fun v S => oE False (asB v) fun c3 => match c3 with
            | false => Q (.b false) S
            | true => TF KK 7 [.ag [.sl 1 zs t3, .sl 2 ws t4, .i .i64 m], .ag [.sl 1 zs t3, .sl 2 ws t4, .i .i64 m]] S fun v S => oE False (asB v) fun c4 => Q (.b c4) S) := by kernel_rfl
end
end Go.Ab
