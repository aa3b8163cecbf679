/- Appends. -/
import Derived.Test.YtmikgopohkbbfaaS6
namespace Go.Ab
open Go.RowKit (Below)
section
variable {P : Program} {an : An} {G0 : Gh} {W0 : World} {G G' : Gh} {W : World} {S S' : St} {rho : Nat → Nat} {E : Env} {a : Act} {nt : Nat}
theorem info_of {e : TypeId} {sz by_ : Nat} (hn : cSize P e = some sz) (hb : cBytes P e = some by_) (hz : cZeroOk P e = true) : ∃ i z, P.info? e = some i ∧ i.size = sz ∧ i.bytes = by_ ∧ i.zero = some z ∧ z.cells.size = sz := by
  unfold cSize at hn; unfold cBytes at hb; unfold cZeroOk at hz
  simp only [Option.map_eq_some_iff] at hn hb
  obtain ⟨i, hi, rfl⟩ := hn
  obtain ⟨i', hi', rfl⟩ := hb
  rw [hi] at hi' hz
  simp only [Option.some.injEq] at hi'
  subst hi'
  cases hzz : i.zero with
  | none => simp [hzz] at hz
  | some z => exact ⟨i, z, hi, rfl, rfl, hzz, by simpa [hzz] using hz⟩
/-- With room. -/
theorem run_app_room {t0 t1 ty e : TypeId} {d1 : TypeDesc} {sz : Nat} (h0 : P.underlying t0 = some (.slice e)) (h1 : P.underlying t1 = some d1) (hd1 : (∃ e1, d1 = .slice e1) ∨ d1 = .string) (hn : cSize P e = some sz)
    {c o sLen sCap n : Nat} {y : Value} {news : List Value} (hy : ReadsAs P sz y n news W) (hl : news.length = n * sz) (h1c : ∀ u ∈ news, u.oneCell' = true) (hroom : sLen + n ≤ sCap)
    (hc : ∀ j, j < news.length → (at_ W c (o + sLen * sz + j)).isSome = true) (hf : ∀ j, j < news.length → frz_ W c (o + sLen * sz + j) = false) :
    (Builtin.append_ #[t0, t1] ty #[.slice (some ⟨c, o, none⟩) sLen sCap, y]).run P W = .ok (.slice (some ⟨c, o, none⟩) (sLen + n) sCap) (W.setCells c (o + sLen * sz) news) := by
  obtain ⟨y1, y2⟩ := hy W rfl
  have y3 := y2 n (Nat.le_refl _)
  rw [← hl, List.take_length] at y3
  have hst := run_storeCells_cells (P := P) c (o + sLen * sz) news 0 W (by simpa [at_] using hc) (by simpa [frz_] using hf) h1c
  simp only [Nat.add_zero] at hst
  unfold Builtin.append_
  rcases hd1 with ⟨e1, rfl⟩ | rfl <;> simp [run_underlying h0, run_underlying h1, run_sizeOf hn, y1, y3, hroom, Addr.add_lit, hst]
/-- Nothing is appended. -/
theorem run_app_zero {t0 t1 ty e : TypeId} {d1 : TypeDesc} {sz : Nat} (h0 : P.underlying t0 = some (.slice e)) (h1 : P.underlying t1 = some d1) (hd1 : (∃ e1, d1 = .slice e1) ∨ d1 = .string) (hn : cSize P e = some sz)
    {base : Option Addr} {sLen sCap : Nat} {y : Value} {news : List Value} (hy : ReadsAs P sz y 0 news W) (hcap : sLen ≤ sCap) :
    (Builtin.append_ #[t0, t1] ty #[.slice base sLen sCap, y]).run P W = .ok (.slice base sLen sCap) W := by
  obtain ⟨y1, y2⟩ := hy W rfl
  have y3 := y2 0 (Nat.le_refl _)
  simp only [Nat.zero_mul, List.take_zero] at y3
  unfold Builtin.append_
  rcases hd1 with ⟨e1, rfl⟩ | rfl <;> (cases base <;> simp [run_underlying h0, run_underlying h1, run_sizeOf hn, y1, y3, hcap, storeCells])
/-- Without room. -/
theorem run_app_grow {t0 t1 ty e : TypeId} {d1 : TypeDesc} {sz by_ : Nat} {i : TypeInfo} {z : Value} (h0 : P.underlying t0 = some (.slice e)) (h1 : P.underlying t1 = some d1) (hd1 : (∃ e1, d1 = .slice e1) ∨ d1 = .string)
    (hi : P.info? e = some i) (hsz : i.size = sz) (hby : i.bytes = by_) (hz : i.zero = some z)
    {base : Option Addr} {sLen sCap n : Nat} {y : Value} {olds news : List Value} (hx : ReadsAs P sz (.slice base sLen sCap) sLen olds W) (hlo : olds.length = sLen * sz) (hy : ReadsAs P sz y n news W) (hl : news.length = n * sz)
    (hgrow : sCap < sLen + n) (hroom : (sLen + n) * by_ ≤ 2 ^ 46) (hb0 : 0 < by_) :
    (Builtin.append_ #[t0, t1] ty #[.slice base sLen sCap, y]).run P W = .ok (.slice (some ⟨W.heap.size, 0, none⟩) (sLen + n) (grownCap W (sLen + n) sCap e))
      (W.drew.alloc (.cells (olds ++ news ++ (Builtin.zeroCells z.cells (grownCap W (sLen + n) sCap e - (sLen + n))).toList).toArray e)) := by
  obtain ⟨y1, _⟩ := hy W rfl
  have y3 := (hy W.drew rfl).2 n (Nat.le_refl _)
  have x3 := (hx W.drew rfl).2 sLen (Nat.le_refl _)
  rw [← hl, List.take_length] at y3
  rw [← hlo, List.take_length] at x3
  have hnn : sLen + n ≤ 2 ^ 46 := Nat.le_trans (Nat.le_mul_of_pos_right _ hb0) hroom
  have hn1 : ¬ (sLen + n ≤ sCap) := by omega
  have h63 : ¬ (9223372036854775807 < ((sLen : Int) + (n : Int))) := by omega
  have h48 : ¬ (281474976710656 < Builtin.nextslicecap (sLen + n) sCap * i.bytes) := by
    have := growslice_fits (bytes := i.bytes) hgrow (by rw [hby]; omega)
    omega
  unfold Builtin.append_
  rcases hd1 with ⟨e1, rfl⟩ | rfl <;> simp [run_underlying h0, run_underlying h1, sizeOf, y1, hn1, h63, h48, hi, hz, hsz, zeroValue, typeInfo, Question.forced, y3, x3, newRow, grownCap]
  all_goals (congr 2; apply Array.ext'; simp)
theorem grownCap_pos (w : World) (need old : Nat) (e : TypeId) : need ≤ grownCap w need old e := grownCap_ge w need old e
end
end Go.Ab
