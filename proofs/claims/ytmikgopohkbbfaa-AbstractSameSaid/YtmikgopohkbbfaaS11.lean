/- Comparisons, and more that only tells. -/
import Derived.Test.YtmikgopohkbbfaaS10
namespace Go.Ab
open Go.RowKit (Below)
section
variable {P : Program} {an : An} {G0 : Gh} {W0 : World} {G G' : Gh} {W : World} {S S' : St} {rho : Nat → Nat} {E : Env} {a : Act} {nt : Nat}
theorem run_part {t : TypeId} {xs : Array Value} {j : Nat} {u : Value} (hs : cScalar P t = true) (hj : xs[j]? = some u) : (part t xs j).run P W = .ok u W := by
  unfold cScalar at hs
  unfold part isAgg
  cases hu : P.underlying t with
  | none => simp [hu] at hs
  | some d => cases d <;> simp [hu] at hs <;> simp [run_underlying hu, hj]
theorem eqC_rel {t : TypeId} {x y : AV} {u v : Value} {b : Bool} (hs : cScalar P t = true) (hx : VRel G W x u) (hy : VRel G W y v) (h : eqC (cKd P t) x y = some b) (d : Nat) : (Op.equalIn (d + 1) t u v).run P W = .ok b W := by
  unfold cScalar at hs
  unfold cKd at h
  cases hu : P.underlying t with
  | none => simp [hu] at hs
  | some dd =>
    cases dd <;> simp [hu] at hs
    case bool =>
      simp only [hu] at h
      obtain ⟨p, q, rfl, rfl, rfl⟩ : ∃ p q, x = .b p ∧ y = .b q ∧ b = (p == q) := by
        cases x <;> cases y <;> simp [eqC] at h ⊢
        exact h.symm
      cases hx; cases hy
      exact run_equalIn_bool W d t _ _ hu
    case int k =>
      simp only [hu] at h
      obtain ⟨p, q, rfl, rfl, rfl⟩ : ∃ p q, x = .i k p ∧ y = .i k q ∧ b = (p == q) := by
        cases x <;> cases y <;> simp [eqC] at h ⊢
        obtain ⟨⟨rfl, rfl⟩, rfl⟩ := h
        simp
      cases hx; cases hy
      exact run_equalIn_int W d t _ k _ _ hu
    case string =>
      simp only [hu] at h
      obtain ⟨p, q, rfl, rfl, rfl⟩ : ∃ p q, x = .s p ∧ y = .s q ∧ b = (p == q) := by
        cases x <;> cases y <;> simp [eqC] at h ⊢
        exact h.symm
      cases hx; cases hy
      have := run_equalIn_string (P := P) W d t ⟨p.toArray⟩ ⟨q.toArray⟩ hu
      simpa using this
theorem eqCs_rel : ∀ {fs : List Field} {xs ys : List AV} {us vs : List Value} {b : Bool} (px py : List Value), fieldsOk P fs px.length = true → py.length = px.length → VRels G W xs us → VRels G W ys vs → eqCs (fs.map fun fd => cKd P fd.type) xs ys = some b →
    ∀ d, (Op.eqFields (d + 1) (px ++ us).toArray (py ++ vs).toArray fs).run P W = .ok b W
  | [], xs, ys, us, vs, b, px, py, _, _, hx, hy, h, d => by
    simp only [List.map_nil] at h
    unfold eqCs at h
    split at h
    · simp at h; subst h; simp [Op.eqFields]
    · rename_i heq; simp at heq
    · simp at h
  | fd :: r, xs, ys, us, vs, b, px, py, hf, hl, hx, hy, h, d => by
    simp only [fieldsOk, Bool.and_eq_true, bne_iff_ne, ne_eq, beq_iff_eq] at hf
    obtain ⟨⟨⟨f1, f2⟩, f3⟩, f4⟩ := hf
    simp only [List.map_cons] at h
    unfold eqCs at h
    split at h
    · rename_i heq; simp at heq
    · rename_i k ks x xs y ys heq
      simp only [List.cons.injEq] at heq
      obtain ⟨rfl, rfl⟩ := heq
      split at h
      · rename_i p q h1 h2
        simp only [Option.some.injEq] at h
        subst h
        cases hx with
        | cons _ u _ us hxu hxr =>
          cases hy with
          | cons _ v _ vs hyv hyr =>
            have ih := eqCs_rel (fs := r) (px ++ [u]) (py ++ [v]) (by simpa using f4) (by simp [hl]) hxr hyr h2 d
            simp only [List.append_assoc, List.singleton_append] at ih
            have g1 : (part fd.type (px ++ u :: us).toArray fd.offset).run P W = .ok u W := run_part f1 (by rw [f3]; simp)
            have g2 : (part fd.type (py ++ v :: vs).toArray fd.offset).run P W = .ok v W := run_part f1 (by rw [f3]; simp [← hl])
            have g3 := eqC_rel (d := d) f1 hxu hyv h1
            simp only [Op.eqFields]
            rw [if_pos f2]
            simp only [Sem.run_bind, g1, g2, g3, Result.andThen_ok]
            cases p
            · simp
            · simpa using ih
      · simp at h
    · simp at h
theorem isNp_rel {x : AV} {u : Value} {b : Bool} (hx : VRel G W x u) (h : isNp x = some b) : ∃ p : Option Addr, u = .pointer p ∧ p.isNone = b := by
  cases hx <;> simp [isNp] at h <;> subst h <;> exact ⟨_, rfl, rfl⟩
theorem isNl_rel {x : AV} {u : Value} {b : Bool} (hx : VRel G W x u) (h : isNl x = some b) : ∃ p n c, u = .slice p n c ∧ p.isNone = b := by
  cases hx with
  | nl sz => simp [isNl] at h; subst h; exact ⟨none, 0, 0, rfl, rfl⟩
  | sl sz xs t c o cap us h0 h1 h2 h3 h4 h5 hnl => cases t <;> simp [isNl] at h hnl <;> subst h <;> exact ⟨_, _, _, rfl, rfl⟩
  | ar => simp [isNl] at h; subst h; exact ⟨_, _, _, rfl, rfl⟩
  | se => simp [isNl] at h; subst h; exact ⟨_, _, _, rfl, rfl⟩
  | _ => simp [isNl] at h
theorem isNf_rel {x : AV} {u : Value} {b : Bool} (hx : VRel G W x u) (h : isNf x = some b) : (b = true ∧ u = .nilFunc) ∨ (b = false ∧ ∃ f p q, u = .func f p q) := by
  cases hx <;> simp [isNf] at h <;> subst h
  · exact .inr ⟨rfl, _, _, _, rfl⟩
  · exact .inl ⟨rfl, rfl⟩
theorem binOp_eql {t : TypeId} {u v : Value} {b : Bool} (h : (Op.equal t u v).run P W = .ok b W) (hi : ∀ k n, u ≠ .int k n) (hs : ∀ s, u ≠ .string s) (hfl : ∀ k n, u ≠ .float k n) (hcm : ∀ k n m, u ≠ .complex k n m) (neg : Bool) :
    (binOp (if neg then .neq else .eql) t u v).run P W = .ok (.bool (if neg then !b else b)) W := by
  cases neg <;> cases u <;> first
    | exact absurd rfl (hi _ _)
    | exact absurd rfl (hs _)
    | exact absurd rfl (hfl _ _)
    | exact absurd rfl (hcm _ _ _)
    | simp [binOp, h]
theorem pair_cases {o1 o2 : Option Bool} {b : Bool} (h : (match o1, o2 with | some true, some t => some t | some t, some true => some t | _, _ => none) = some b) : (o1 = some true ∧ o2 = some b) ∨ (o1 = some b ∧ o2 = some true) := by
  cases o1 with
  | none => simp at h
  | some p => cases o2 with
    | none => cases p <;> simp at h
    | some q => cases p <;> cases q <;> simp at h <;> subst h <;> simp
end
end Go.Ab
