/- Single operations: what the machine of values does, the Go machine does (constants, operands, what is read and written). -/
import Derived.Test.YtmikgopohkbbfaaR
namespace Go.Ab
open Go.RowKit (Below)
/-! ### Constants -/
mutual
theorem cAV_rel (G : Gh) (W : World) : ∀ (f : Nat) (v : Value) (x : AV), cAV f v = some x → VRel G W x v ∧ ((∀ c, x ≠ .ag c) → v.oneCell' = true)
  | 0, _, _, h => by simp [cAV] at h
  | f + 1, v, x, h => by
    cases v with
    | bool b => simp [cAV] at h; subst h; exact ⟨.b b, fun _ => rfl⟩
    | int k n => simp [cAV] at h; subst h; exact ⟨.i k n, fun _ => rfl⟩
    | string s => simp [cAV] at h; subst h; exact ⟨by simpa using VRel.s (G := G) (W := W) s.data.toList, fun _ => rfl⟩
    | pointer a => cases a with
      | none => simp [cAV] at h; subst h; exact ⟨.np, fun _ => rfl⟩
      | some a => simp [cAV] at h
    | slice a n c =>
      cases a with
      | some a => simp [cAV] at h
      | none => cases n with
        | succ n => simp [cAV] at h
        | zero => cases c with
          | succ c => simp [cAV] at h
          | zero => simp [cAV] at h; subst h; exact ⟨.nl 0, fun _ => rfl⟩
    | nilFunc => simp [cAV] at h; subst h; exact ⟨.nf, fun _ => rfl⟩
    | nilIface => simp [cAV] at h; subst h; exact ⟨.ni, fun _ => rfl⟩
    | agg cs =>
      simp only [cAV, Option.bind_eq_some_iff] at h
      obtain ⟨xs, hx, h⟩ := h
      split at h
      · rename_i hall
        simp only [Option.some.injEq] at h
        subst h
        obtain ⟨hr, h1⟩ := cAVs_rel G W f cs.toList xs hx
        have hna : ∀ y ∈ xs, ∀ c, y ≠ .ag c := by
          intro y hy
          have := List.all_eq_true.1 hall y hy
          cases y <;> simp at this ⊢
        have := VRel.ag (G := G) (W := W) xs cs.toList (h1 hna) hr
        exact ⟨by simpa using this, fun hc => absurd rfl (hc xs)⟩
      · simp at h
    | _ => simp [cAV] at h
theorem cAVs_rel (G : Gh) (W : World) : ∀ (f : Nat) (vs : List Value) (xs : List AV), cAVs f vs = some xs → VRels G W xs vs ∧ ((∀ y ∈ xs, ∀ c, y ≠ .ag c) → ∀ u ∈ vs, u.oneCell' = true)
  | 0, _, _, h => by simp [cAVs] at h
  | f + 1, [], xs, h => by simp [cAVs] at h; subst h; exact ⟨.nil, by simp⟩
  | f + 1, v :: r, xs, h => by
    simp only [cAVs, Option.bind_eq_some_iff, Option.map_eq_some_iff] at h
    obtain ⟨x, hx, ys, hy, rfl⟩ := h
    obtain ⟨h1, h2⟩ := cAV_rel G W f v x hx
    obtain ⟨h3, h4⟩ := cAVs_rel G W f r ys hy
    refine ⟨.cons _ _ _ _ h1 h3, fun hn u hu => ?_⟩
    rcases List.mem_cons.1 hu with rfl | hu
    · exact h2 (hn x (by simp))
    · exact h4 (fun y hy => hn y (by simp [hy])) u hu
end
/-! ### Operands -/
/-- What the globals that are read hold. -/
def Globs (an : An) (G : Gh) (W : World) : Prop := ∀ g cs, an.glob g = some cs → VRel G W (.fz cs) (.pointer (some ⟨g, 0, none⟩))
section
variable {an : An} {G0 : Gh} {W0 : World} {G : Gh} {W : World} {rho : Nat → Nat} {E : Env} {a : Act} {nt : Nat}
theorem const_op (hg : Globs an G0 W0) (h : ARel G0 W0 G W rho E a nt) {x : Operand} {v : AV} (hc : cO an x = some (.c v)) : VRel G W v (a.eval x) := by
  cases x with
  | tmp t => simp [cO] at hc
  | const c =>
    simp only [cO, Option.map_eq_some_iff, O.c.injEq] at hc
    obtain ⟨y, hy, rfl⟩ := hc
    exact (cAV_rel G W _ _ _ hy).1
  | global g =>
    simp only [cO, Option.map_eq_some_iff, O.c.injEq] at hc
    obtain ⟨cs, hcs, rfl⟩ := hc
    exact (hg g cs hcs).mono h.e0.toVExt
  | func f => simp [cO] at hc; subst hc; exact .fn f [] [] [] [] .nil .nil
theorem eval_tmp {n : Nat} {u : Value} (h : a.tmps[n]? = some u) : a.eval (.tmp n) = u := by simp [Act.eval, h]
theorem cO_tmp {x : Operand} {n : Nat} (hc : cO an x = some (.t n)) : x = .tmp n := by
  cases x <;> simp [cO] at hc
  subst hc; rfl
theorem op_rel (hg : Globs an G0 W0) (h : ARel G0 W0 G W rho E a nt) {x : Operand} {y : O} {v : AV} (hc : cO an x = some y) (hv : E.op y = some v) : VRel G W v (a.eval x) := by
  cases y with
  | c w => simp [Env.op] at hv; subst hv; exact const_op hg h hc
  | t n =>
    obtain rfl := cO_tmp hc
    obtain ⟨u, hu, hr⟩ := h.t n v hv
    rw [eval_tmp hu]; exact hr
def AdRel (G : Gh) (W : World) (rho : Nat → Nat) (E : Env) : Ad → Value → Prop
  | .rg t off, u => u = .pointer (some ⟨rho t, off, none⟩) ∧ (E.r.get t).isSome
  | .v x, u => VRel G W x u
theorem ad_rel (hg : Globs an G0 W0) (h : ARel G0 W0 G W rho E a nt) {x : Operand} {y : O} {v : Ad} (hc : cO an x = some y) (hv : E.ad y = some v) : AdRel G W rho E v (a.eval x) := by
  cases y with
  | c w => simp [Env.ad] at hv; subst hv; exact const_op hg h hc
  | t n =>
    obtain rfl := cO_tmp hc
    simp only [Env.ad] at hv
    cases hp : E.p.get n with
    | some q =>
      obtain ⟨t, off⟩ := q
      simp only [hp, Option.some.injEq] at hv
      subst hv
      obtain ⟨h1, _, h2⟩ := h.p n t off hp
      exact ⟨eval_tmp h1, h2⟩
    | none =>
      simp only [hp, Option.map_eq_some_iff] at hv
      obtain ⟨x, hx, rfl⟩ := hv
      obtain ⟨u, hu, hr⟩ := h.t n x hx
      show VRel G W x _
      rw [eval_tmp hu]; exact hr
theorem ops_rel (hg : Globs an G0 W0) (h : ARel G0 W0 G W rho E a nt) : ∀ {xs : List Operand} {ys : List O} {vs : List AV}, cOs an xs = some ys → E.ops ys = some vs → VRels G W vs (xs.map a.eval)
  | [], ys, vs, hc, hv => by
    simp [cOs] at hc; subst hc
    simp [Env.ops] at hv; subst hv; exact .nil
  | x :: r, ys, vs, hc, hv => by
    simp only [cOs, Option.bind_eq_some_iff, Option.map_eq_some_iff] at hc
    obtain ⟨y, hy, zs, hz, rfl⟩ := hc
    simp only [Env.ops] at hv
    split at hv
    · rename_i v ws h1 h2
      simp only [Option.some.injEq] at hv
      subst hv
      exact .cons _ _ _ _ (op_rel hg h hy h1) (ops_rel hg h hz h2)
    · simp at hv
end
/-! ### Values by their cells -/
theorem cells_rel {G : Gh} {W : World} {v : AV} {u : Value} (h : VRel G W v u) (ht : v.isTu = false) : VRels G W v.cells u.cells.toList ∧ ∀ c ∈ u.cells.toList, c.oneCell' = true := by
  cases h with
  | ag cs us h1 h => exact ⟨by simpa [AV.cells, Value.cells] using h, by simpa [Value.cells] using h1⟩
  | tu => simp [AV.isTu] at ht
  | _ => refine ⟨?_, ?_⟩ <;> first | (intro c hc; simp [Value.cells] at hc; subst hc; rfl) | (simp only [AV.cells, Value.cells]; exact .cons _ _ _ _ (by constructor <;> assumption) .nil)
theorem oneCell_cells {u : Value} (h : u.oneCell' = true) : u.cells = #[u] := by cases u <;> simp [Value.oneCell', Value.cells] at h ⊢
theorem val_rel {G : Gh} {W : World} {g : Bool} {n : Nat} {cs : List AV} {us : List Value} {v : AV} (h : VRels G W cs us) (h1 : ∀ u ∈ us, u.oneCell' = true) (hv : val g n cs = some v) :
    (g = true ∧ VRel G W v (.agg us.toArray)) ∨ (g = false ∧ n = 1 ∧ ∃ u, us = [u] ∧ VRel G W v u) := by
  cases g with
  | true => simp [val] at hv; subst hv; exact .inl ⟨rfl, .ag _ _ h1 h⟩
  | false =>
    simp only [val, Bool.false_eq_true, if_false] at hv
    split at hv
    · split at hv
      · rename_i x hn
        simp only [Option.some.injEq] at hv
        subst hv
        cases h with
        | cons _ u _ us hx hr => cases hr; exact .inr ⟨rfl, hn, u, rfl, hx⟩
      · simp at hv
    · simp at hv
theorem cut_rel {G : Gh} {W : World} {cs : List AV} {us : List Value} {off n : Nat} {ds : List AV} (h : VRels G W cs us) (hc : cut cs off n = some ds) :
    off + n ≤ us.length ∧ ds.length = n ∧ VRels G W ds ((us.drop off).take n) := by
  unfold cut at hc
  split at hc
  · rename_i hle
    simp only [Option.some.injEq] at hc
    subst hc
    have hl := VRels.length h
    exact ⟨by omega, by simp; omega, VRels.take n (VRels.drop off h)⟩
  · simp at hc
end Go.Ab
