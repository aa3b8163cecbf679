/- The functions that compare images: what they come to. -/
import Derived.Test.YtmikgopohkbbfaaF1
namespace Go.Ab
set_option maxRecDepth 100000
structure Cp where
  id : Int
  dat : List UInt8
  tk : Tk
structure Im where
  dat : List UInt8
  dt : Tk
  cps : List Cp
  ct : Tk
  last : Int
def byts (l : List UInt8) : List AV := l.map fun c => .i .u8 c.toNat
def Cp.av (c : Cp) : AV := .ag [.i .i64 c.id, .sl 1 (byts c.dat) c.tk]
def Im.av (m : Im) : AV := .ag [.sl 1 (byts m.dat) m.dt, .sl 2 (m.cps.map Cp.av) m.ct, .i .i64 m.last]
def sameC : List Cp → List Cp → Bool
  | [], [] => true
  | x :: xs, y :: ys => (x.id == y.id && x.dat == y.dat) && sameC xs ys
  | _, _ => false
def sameI (a b : Im) : Bool := a.dat == b.dat && a.last == b.last && sameC a.cps b.cps
def fewC (l : List Cp) : Bool := l.all fun c => decide (c.dat.length ≤ 1000)
def fewI (m : Im) : Bool := decide (m.dat.length ≤ 1000) && decide (m.cps.length ≤ 10) && fewC m.cps
theorem bytesOf_byts : ∀ l : List UInt8, bytesOf (byts l) = some l
  | [] => rfl
  | c :: r => by
    have h : 0 ≤ ((c.toNat : Nat) : Int) ∧ ((c.toNat : Nat) : Int) < 256 := ⟨by omega, by have := c.toNat_lt; omega⟩
    show (if 0 ≤ ((c.toNat : Nat) : Int) ∧ ((c.toNat : Nat) : Int) < 256 then (match bytesOf (byts r) with | some t => some (UInt8.ofNat ((c.toNat : Nat) : Int).toNat :: t) | none => none) else none) = some (c :: r)
    rw [if_pos h, bytesOf_byts r]
    simp
theorem byts_length (l : List UInt8) : (byts l).length = l.length := by simp [byts]
theorem wrap_small {n : Int} (h0 : 0 ≤ n) (h : n < 1000) : IntKind.i64.wrap n = n := by
  rw [IntKind.wrap_i64]; omega
theorem s14 {a b : List UInt8} {t1 t2 : Tk} {S : St} {Q : AV → St → Prop} (h : Q (.b (a == b)) S) : TF KK 14 [.sl 1 (byts a) t1, .sl 1 (byts b) t2] S Q := by
  refine TF.of w14 rfl (Nat.le_of_ble_eq_true rfl) ?_
  simp only [bytesOf_byts, oE]
  exact h
theorem s13 {x y : Cp} {S : St} {Q : AV → St → Prop} (h : Q (.b (x.id == y.id && x.dat == y.dat)) S) : TF KK 13 [x.av, y.av] S Q := by
  refine TF.of w13 rfl (Nat.le_of_ble_eq_true rfl) ?_
  cases he : x.id == y.id with
  | false => rw [he] at h; exact h
  | true =>
    rw [he] at h
    exact s14 (by simpa [asB, oE] using h)
theorem sameC_drop : ∀ {l1 l2 : List Cp} {i : Nat} {x y : Cp}, l1[i]? = some x → l2[i]? = some y → sameC (l1.drop i) (l2.drop i) = ((x.id == y.id && x.dat == y.dat) && sameC (l1.drop (i + 1)) (l2.drop (i + 1)))
  | [], _, _, _, _, h, _ => by simp at h
  | _ :: _, [], _, _, _, _, h => by simp at h
  | a :: l1, b :: l2, 0, x, y, h1, h2 => by
    simp at h1 h2
    subst h1 h2
    simp [sameC]
  | a :: l1, b :: l2, i + 1, x, y, h1, h2 => by
    simp only [List.getElem?_cons_succ] at h1 h2
    simp only [List.drop_succ_cons]
    exact sameC_drop h1 h2
theorem l15 {l1 l2 : List Cp} {t2 t4 : Tk} {S : St} {Q : AV → St → Prop} (hl : l1.length = l2.length) (hb : l1.length ≤ 10) : ∀ (k i : Nat), i + k = l1.length → Q (.b (sameC (l1.drop i) (l2.drop i))) S →
    TC KK (d15.code.at p15) (E15 (l1.map Cp.av) (l2.map Cp.av) t2 t4 l1.length i) S (d15.code.kt KK p15 (outs d15 Q))
  | 0, i, hi, h => by
    refine TC.go rfl ?_
    rw [w15b]
    have : ¬ ((i : Int) < (l1.length : Int)) := by omega
    simp only [this, decide_false]
    have h1 : l1.drop i = [] := by rw [List.drop_eq_nil_iff]; omega
    have h2 : l2.drop i = [] := by rw [List.drop_eq_nil_iff]; omega
    rw [h1, h2] at h
    exact h
  | k + 1, i, hi, h => by
    refine TC.go rfl ?_
    rw [w15b]
    have hlt : (i : Int) < (l1.length : Int) := by omega
    simp only [hlt, decide_true]
    have e1 : l1[i]? = some l1[i] := List.getElem?_eq_getElem (by omega)
    have e2 : l2[i]? = some (l2[i]'(by omega)) := List.getElem?_eq_getElem (by omega)
    have hs := sameC_drop e1 e2
    generalize l1[i] = x at e1 hs
    generalize (l2[i]'(by omega)) = y at e2 hs
    refine ⟨x.av, ⟨trivial, by omega, by simp [e1]⟩, _, _, rfl, y.av, ⟨trivial, by omega, by simp [e2]⟩, _, _, rfl, ?_⟩
    refine s13 (x := x) (y := y) ?_
    simp only [asB, oE]
    rw [hs] at h
    cases hxy : (x.id == y.id && x.dat == y.dat) with
    | false => rw [hxy] at h; exact h
    | true =>
      rw [hxy] at h
      simp only [Bool.not_true]
      rw [wrap_small (by omega) (by omega)]
      exact l15 hl hb k (i + 1) (by omega) (by simpa using h)
theorem sameC_length : ∀ {l1 l2 : List Cp}, sameC l1 l2 = true → l1.length = l2.length
  | [], [], _ => rfl
  | [], _ :: _, h => by simp [sameC] at h
  | _ :: _, [], h => by simp [sameC] at h
  | _ :: l1, _ :: l2, h => by
    simp only [sameC, Bool.and_eq_true] at h
    simp [sameC_length h.2]
theorem s15 {l1 l2 : List Cp} {t2 t4 : Tk} {S : St} {Q : AV → St → Prop} (hb : l1.length ≤ 10) (h : Q (.b (sameC l1 l2)) S) : TF KK 15 [.sl 2 (l1.map Cp.av) t2, .sl 2 (l2.map Cp.av) t4, .fn 13 [] []] S Q := by
  refine TF.of w15 rfl (Nat.le_of_ble_eq_true rfl) ?_
  simp only [List.length_map]
  by_cases hl : l1.length = l2.length
  · have : (((l1.length : Nat) : Int) != ((l2.length : Nat) : Int)) = false := by simp [hl]
    rw [this]
    exact l15 hl hb l1.length 0 (by omega) h
  · have : (((l1.length : Nat) : Int) != ((l2.length : Nat) : Int)) = true := by
      simp only [bne_iff_ne, ne_eq]; omega
    rw [this]
    have hf : sameC l1 l2 = false := by
      cases hs : sameC l1 l2 with
      | false => rfl
      | true => exact absurd (sameC_length hs) hl
    rw [hf] at h; exact h
theorem s7 {a b : Im} {S : St} {Q : AV → St → Prop} (hb : a.cps.length ≤ 10) (h : Q (.b (sameI a b)) S) : TF KK 7 [a.av, b.av] S Q := by
  refine TF.of w7 rfl (Nat.le_of_ble_eq_true rfl) ?_
  unfold sameI at h
  refine s14 ?_
  simp only [asB, oE]
  cases h1 : a.dat == b.dat with
  | false => rw [h1] at h; exact h
  | true =>
    cases h2 : a.last == b.last with
    | false => rw [h1, h2] at h; exact h
    | true =>
      rw [h1, h2] at h
      exact s15 hb (by simpa [asB, oE] using h)
theorem fewC_drop : ∀ {l : List Cp} {i : Nat} {x : Cp}, l[i]? = some x → fewC (l.drop i) = (decide (x.dat.length ≤ 1000) && fewC (l.drop (i + 1)))
  | [], _, _, h => by simp at h
  | a :: l, 0, x, h => by
    simp at h; subst h
    simp [fewC]
  | a :: l, i + 1, x, h => by
    simp only [List.getElem?_cons_succ] at h
    simp only [List.drop_succ_cons]
    exact fewC_drop h
theorem l5 {m : Im} {S : St} {Q : AV → St → Prop} (hb : m.cps.length ≤ 10) : ∀ (k i : Nat), i + k = m.cps.length → Q (.b (fewC (m.cps.drop i))) S →
    TC KK (d5.code.at p5) (E5 (byts m.dat) (m.cps.map Cp.av) m.dt m.ct m.last i) S (d5.code.kt KK p5 (outs d5 Q))
  | 0, i, hi, h => by
    refine TC.go rfl ?_
    rw [w5b]
    have : ¬ ((i : Int) < (((m.cps.map Cp.av).length : Nat) : Int)) := by rw [List.length_map]; omega
    simp only [this, decide_false]
    have h1 : m.cps.drop i = [] := by rw [List.drop_eq_nil_iff]; omega
    rw [h1] at h
    exact h
  | k + 1, i, hi, h => by
    refine TC.go rfl ?_
    rw [w5b]
    have hlt : (i : Int) < (((m.cps.map Cp.av).length : Nat) : Int) := by rw [List.length_map]; omega
    simp only [hlt, decide_true]
    have e1 : m.cps[i]? = some m.cps[i] := List.getElem?_eq_getElem (by omega)
    have hs := fewC_drop e1
    generalize m.cps[i] = x at e1 hs
    refine ⟨x.av, ⟨trivial, by omega, by simp [e1]⟩, _, ⟨trivial, rfl⟩, ?_⟩
    simp only [lenV, oE, byts_length, Bool.false_eq_true, if_false]
    rw [hs] at h
    by_cases hx : x.dat.length ≤ 1000
    · have : ¬ (((x.dat.length : Nat) : Int) > 1000) := by omega
      simp only [this, decide_false]
      rw [wrap_small (by omega) (by omega)]
      simp only [hx, decide_true, Bool.true_and] at h
      exact l5 hb k (i + 1) (by omega) h
    · have : ((x.dat.length : Nat) : Int) > 1000 := by omega
      simp only [this, decide_true]
      simp only [hx, decide_false, Bool.false_and] at h
      exact h
theorem s5 {m : Im} {S : St} {Q : AV → St → Prop} (h : Q (.b (fewI m)) S) : TF KK 5 [m.av] S Q := by
  refine TF.of w5 rfl (Nat.le_of_ble_eq_true rfl) ?_
  unfold fewI at h
  simp only [byts_length, List.length_map]
  by_cases h1 : m.dat.length ≤ 1000
  · have : ¬ (((m.dat.length : Nat) : Int) > 1000) := by omega
    simp only [this, decide_false, Bool.not_false]
    by_cases h2 : m.cps.length ≤ 10
    · have : ¬ (((m.cps.length : Nat) : Int) > 10) := by omega
      simp only [this, decide_false]
      simp only [h1, h2, decide_true, Bool.true_and] at h
      exact l5 h2 m.cps.length 0 (by omega) h
    · have : ((m.cps.length : Nat) : Int) > 10 := by omega
      simp only [this, decide_true]
      simp only [h2, decide_false, Bool.and_false, Bool.false_and] at h
      exact h
  · have : ((m.dat.length : Nat) : Int) > 1000 := by omega
    simp only [this, decide_true, Bool.not_true]
    simp only [h1, decide_false, Bool.false_and] at h
    exact h
theorem l6 {a b : Im} {S : St} {Q : AV → St → Prop} (hl : a.cps.length = b.cps.length) (hb : a.cps.length ≤ 10) : ∀ (k i : Nat), i + k = a.cps.length → Q (.b (sameC (a.cps.drop i) (b.cps.drop i))) S →
    TC KK (d6.code.at p6) (E6 (byts a.dat) (a.cps.map Cp.av) (byts b.dat) (b.cps.map Cp.av) a.dt a.ct b.dt b.ct a.last b.last i) S (d6.code.kt KK p6 (outs d6 Q))
  | 0, i, hi, h => by
    refine TC.go rfl ?_
    rw [w6b]
    have : ¬ ((i : Int) < (((a.cps.map Cp.av).length : Nat) : Int)) := by rw [List.length_map]; omega
    simp only [this, decide_false]
    have h1 : a.cps.drop i = [] := by rw [List.drop_eq_nil_iff]; omega
    have h2 : b.cps.drop i = [] := by rw [List.drop_eq_nil_iff]; omega
    rw [h1, h2] at h
    exact h
  | k + 1, i, hi, h => by
    refine TC.go rfl ?_
    rw [w6b]
    have hlt : (i : Int) < (((a.cps.map Cp.av).length : Nat) : Int) := by rw [List.length_map]; omega
    simp only [hlt, decide_true]
    have e1 : a.cps[i]? = some a.cps[i] := List.getElem?_eq_getElem (by omega)
    have e2 : b.cps[i]? = some (b.cps[i]'(by omega)) := List.getElem?_eq_getElem (by omega)
    have hs := sameC_drop e1 e2
    generalize a.cps[i] = x at e1 hs
    generalize (b.cps[i]'(by omega)) = y at e2 hs
    refine ⟨x.av, ⟨trivial, by omega, by simp [e1]⟩, _, ⟨trivial, rfl⟩, y.av, ⟨trivial, by omega, by simp [e2]⟩, _, ⟨trivial, rfl⟩, ?_⟩
    rw [hs] at h
    cases hi1 : x.id == y.id with
    | false =>
      have : (!(x.id != y.id)) = false := by simp [bne, hi1]
      rw [this]
      rw [hi1] at h
      exact h
    | true =>
      have : (!(x.id != y.id)) = true := by simp [bne, hi1]
      rw [this]
      refine ⟨x.av, ⟨trivial, by omega, by simp [e1]⟩, _, ⟨trivial, rfl⟩, ?_⟩
      simp only [sliceC, cont, oE, bytesOf_byts]
      refine ⟨y.av, ⟨trivial, by omega, by simp [e2]⟩, _, ⟨trivial, rfl⟩, ?_⟩
      simp only [sliceC, cont, oE, bytesOf_byts]
      rw [hi1] at h
      cases hd : x.dat == y.dat with
      | false => rw [hd] at h; exact h
      | true =>
        rw [hd] at h
        simp only [Bool.not_true]
        rw [wrap_small (by omega) (by omega)]
        exact l6 hl hb k (i + 1) (by omega) (by simpa using h)
theorem s6 {a b : Im} {S : St} {Q : AV → St → Prop} (hb : a.cps.length ≤ 10) (h : Q (.b (sameI a b)) S) : TF KK 6 [a.av, b.av] S Q := by
  refine TF.of w6 rfl (Nat.le_of_ble_eq_true rfl) ?_
  unfold sameI at h
  simp only [bytesOf_byts, oE, List.length_map]
  cases h1 : a.dat == b.dat with
  | false => rw [h1] at h; exact h
  | true =>
    simp only [Bool.not_true, Bool.not_false]
    cases h2 : a.last == b.last with
    | false =>
      have : (!(a.last != b.last)) = false := by simp [bne, h2]
      rw [this]
      rw [h1, h2] at h; exact h
    | true =>
      have : (!(a.last != b.last)) = true := by simp [bne, h2]
      rw [this]
      rw [h1, h2] at h
      by_cases hl : a.cps.length = b.cps.length
      · have : (((a.cps.length : Nat) : Int) != ((b.cps.length : Nat) : Int)) = false := by simp [hl]
        rw [this]
        exact l6 hl hb a.cps.length 0 (by omega) h
      · have : (((a.cps.length : Nat) : Int) != ((b.cps.length : Nat) : Int)) = true := by
          simp only [bne_iff_ne, ne_eq]; omega
        rw [this]
        have hf : sameC a.cps b.cps = false := by
          cases hs : sameC a.cps b.cps with
          | false => rfl
          | true => exact absurd (sameC_length hs) hl
        rw [hf] at h; exact h
theorem sameC_comm : ∀ (l1 l2 : List Cp), sameC l1 l2 = sameC l2 l1
  | [], [] => rfl
  | [], _ :: _ => rfl
  | _ :: _, [] => rfl
  | x :: xs, y :: ys => by
    have h1 : (x.id == y.id) = (y.id == x.id) := BEq.comm
    have h2 : (x.dat == y.dat) = (y.dat == x.dat) := BEq.comm
    simp only [sameC, h1, h2, sameC_comm xs ys]
theorem sameI_comm (a b : Im) : sameI a b = sameI b a := by
  have h1 : (a.dat == b.dat) = (b.dat == a.dat) := BEq.comm
  have h2 : (a.last == b.last) = (b.last == a.last) := BEq.comm
  simp only [sameI, h1, h2, sameC_comm a.cps b.cps]
theorem sameC_refl : ∀ (l : List Cp), sameC l l = true
  | [] => rfl
  | x :: xs => by simp [sameC, sameC_refl xs]
theorem sameI_refl (a : Im) : sameI a a = true := by simp [sameI, sameC_refl]
/-! ### The example -/
def awakeS : St := match evF KK 300 4 [] S00 with
  | some (_, S) => S
  | none => S00
theorem awake_runs (k : Nat) : evF KK (k + 300) 4 [] S00 = some (.b true, awakeS) := by kernel_rfl
theorem s4 {Q : AV → St → Prop} (h : ∀ S, Q (.b true) S) : TF KK 4 [] S00 Q :=
  ⟨.b true, awakeS, ⟨300, fun n hn => by
    obtain ⟨k, rfl⟩ : ∃ k, n = k + 300 := ⟨n - 300, by omega⟩
    exact awake_runs k⟩, h _⟩
theorem s3 (a b : Im) : TF KK 3 [a.av, b.av] S00 fun v _ => v = .b true := by
  refine TF.of w3 rfl (Nat.le_of_ble_eq_true rfl) (s4 fun S => ?_)
  simp only [asB, oE]
  refine s5 (m := a) ?_
  simp only [asB, oE]
  cases h1 : fewI a with
  | false => trivial
  | true =>
    refine s5 (m := b) ?_
    simp only [asB, oE]
    cases h2 : fewI b with
    | false => trivial
    | true =>
      have ha : a.cps.length ≤ 10 := by simp [fewI] at h1; exact h1.1.2
      have hb : b.cps.length ≤ 10 := by simp [fewI] at h2; exact h2.1.2
      refine s6 (a := a) (b := b) ha ?_
      simp only [asB, oE]
      refine s7 (a := a) (b := b) ha ?_
      simp only [asB, oE, beq_self_eq_true]
      refine s7 (a := b) (b := a) hb ?_
      simp only [asB, oE, sameI_comm b a, beq_self_eq_true]
      refine s7 (a := a) (b := a) ha ?_
      simp only [asB, oE, sameI_refl]
      refine s7 (a := b) (b := b) hb ?_
      simp only [asB, oE, sameI_refl]
end Go.Ab
