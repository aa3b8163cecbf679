/- Comparisons, told by the type. -/
import Derived.Test.YtmikgopohkbbfaaS19
import Derived.Laws.StructEq
namespace Go.Ab
open Go.RowKit (Below)
section
variable {P : Program} {an : An} {fid : FuncId} {G0 : Gh} {W0 : World} {G G' : Gh} {W : World} {S S' : St} {rho : Nat → Nat} {E E' : Env} {a : Act} {nt : Nat} {r : Rs}
/-- The types that are compared so. -/
def EcOk (P : Program) (t : TypeId) : Ec → Prop
  | .b => P.underlying t = some .bool
  | .p => ∃ e, P.underlying t = some (.pointer e)
  | .sl => ∃ e, P.underlying t = some (.slice e)
  | .f => ∃ p q v, P.underlying t = some (.func p q v)
  | .st ks => ∃ fields, P.underlying t = some (.struct fields) ∧ fieldsOk P fields.toList 0 = true ∧ P.eqGuardType P.depth t = false ∧ P.stoodInHeld t = false ∧ ks = fields.toList.map fun fd => cKd P fd.type
theorem equalIn_succ {t : TypeId} {u v : Value} {b : Bool} (h : ∀ d, (Op.equalIn (d + 2) t u v).run P W = .ok b W) : (Op.equal t u v).run P W = .ok b W := h 9998
theorem eqlB {t : TypeId} (hc : P.underlying t = some .bool) (x y : Bool) (d : Nat) : (Op.equalIn (d + 2) t (.bool x) (.bool y)).run P W = .ok (x == y) W := by
  rw [Op.equalIn, Sem.run_bind, run_underlying hc]; rfl
theorem eqlP1 {t e : TypeId} (hc : P.underlying t = some (.pointer e)) (q : Option Addr) (d : Nat) : (Op.equalIn (d + 2) t (.pointer none) (.pointer q)).run P W = .ok q.isNone W := by
  rw [Op.equalIn, Sem.run_bind, run_underlying hc]; rfl
theorem eqlP2 {t e : TypeId} (hc : P.underlying t = some (.pointer e)) (q : Option Addr) (d : Nat) : (Op.equalIn (d + 2) t (.pointer q) (.pointer none)).run P W = .ok q.isNone W := by
  rw [Op.equalIn, Sem.run_bind, run_underlying hc]; cases q <;> rfl
theorem eqlS1 {t e : TypeId} (hc : P.underlying t = some (.slice e)) (q : Option Addr) (n m n' m' : Nat) (d : Nat) : (Op.equalIn (d + 2) t (.slice none n m) (.slice q n' m')).run P W = .ok q.isNone W := by
  rw [Op.equalIn, Sem.run_bind, run_underlying hc]; rfl
theorem eqlS2 {t e : TypeId} (hc : P.underlying t = some (.slice e)) (q : Option Addr) (n m n' m' : Nat) (d : Nat) : (Op.equalIn (d + 2) t (.slice q n m) (.slice none n' m')).run P W = .ok q.isNone W := by
  rw [Op.equalIn, Sem.run_bind, run_underlying hc]; cases q <;> rfl
theorem eqs_rel {t : TypeId} {c : Ec} (hc : EcOk P t c) {x y : AV} {u v : Value} {b : Bool} (hx : VRel G W x u) (hy : VRel G W y v) (h : eqV c x y = some b) (neg : Bool) (p q : Operand) :
    (eqGuard (if neg then .neq else .eql) t p q u v).run P W = .ok () W ∧ (binOp (if neg then .neq else .eql) t u v).run P W = .ok (.bool (if neg then !b else b)) W := by
  cases c with
  | b =>
    have hc : P.underlying t = some .bool := hc
    simp only [eqV] at h
    split at h
    · simp only [Option.some.injEq] at h; subst h
      cases hx; cases hy
      refine ⟨by cases neg <;> simp [eqGuard], binOp_eql (equalIn_succ fun d => ?_) (by simp) (by simp) (by simp) (by simp) neg⟩
      exact eqlB hc _ _ d
    · simp at h
  | p =>
    obtain ⟨e, hc⟩ := hc
    simp only [eqV] at h
    rcases pair_cases h with ⟨h1, h2⟩ | ⟨h1, h2⟩
    · obtain ⟨a1, rfl, k1⟩ := isNp_rel hx h1
      obtain ⟨a2, rfl, k2⟩ := isNp_rel hy h2
      refine ⟨by cases neg <;> simp [eqGuard], binOp_eql (equalIn_succ fun d => ?_) (by simp) (by simp) (by simp) (by simp) neg⟩
      cases a1 <;> simp at k1
      rw [← k2]; exact eqlP1 hc _ d
    · obtain ⟨a1, rfl, k1⟩ := isNp_rel hx h1
      obtain ⟨a2, rfl, k2⟩ := isNp_rel hy h2
      refine ⟨by cases neg <;> simp [eqGuard], binOp_eql (equalIn_succ fun d => ?_) (by simp) (by simp) (by simp) (by simp) neg⟩
      cases a2 <;> simp at k2
      rw [← k1]; exact eqlP2 hc _ d
  | sl =>
    obtain ⟨e, hc⟩ := hc
    simp only [eqV] at h
    rcases pair_cases h with ⟨h1, h2⟩ | ⟨h1, h2⟩
    · obtain ⟨a1, _, _, rfl, k1⟩ := isNl_rel hx h1
      obtain ⟨a2, _, _, rfl, k2⟩ := isNl_rel hy h2
      refine ⟨by cases neg <;> simp [eqGuard], binOp_eql (equalIn_succ fun d => ?_) (by simp) (by simp) (by simp) (by simp) neg⟩
      cases a1 <;> simp at k1
      rw [← k2]; exact eqlS1 hc _ _ _ _ _ d
    · obtain ⟨a1, _, _, rfl, k1⟩ := isNl_rel hx h1
      obtain ⟨a2, _, _, rfl, k2⟩ := isNl_rel hy h2
      refine ⟨by cases neg <;> simp [eqGuard], binOp_eql (equalIn_succ fun d => ?_) (by simp) (by simp) (by simp) (by simp) neg⟩
      cases a2 <;> simp at k2
      rw [← k1]; exact eqlS2 hc _ _ _ _ _ d
  | f =>
    obtain ⟨e1, e2, e3, hc⟩ := hc
    simp only [eqV] at h
    rcases pair_cases h with ⟨h1, h2⟩ | ⟨h1, h2⟩
    · rcases isNf_rel hx h1 with ⟨k1, rfl⟩ | ⟨k1, _⟩
      · rcases isNf_rel hy h2 with ⟨rfl, rfl⟩ | ⟨rfl, f, pp, qq, rfl⟩
        · exact ⟨by cases neg <;> simp [eqGuard], binOp_eql (equalIn_succ fun d => by rw [Op.equalIn, Sem.run_bind, run_underlying hc]; rfl) (by simp) (by simp) (by simp) (by simp) neg⟩
        · exact ⟨by cases neg <;> simp [eqGuard], binOp_eql (equalIn_succ fun d => by rw [Op.equalIn, Sem.run_bind, run_underlying hc]; rfl) (by simp) (by simp) (by simp) (by simp) neg⟩
      · simp at k1
    · rcases isNf_rel hy h2 with ⟨k2, rfl⟩ | ⟨k2, _⟩
      · rcases isNf_rel hx h1 with ⟨rfl, rfl⟩ | ⟨rfl, f, pp, qq, rfl⟩
        · exact ⟨by cases neg <;> simp [eqGuard], binOp_eql (equalIn_succ fun d => by rw [Op.equalIn, Sem.run_bind, run_underlying hc]; rfl) (by simp) (by simp) (by simp) (by simp) neg⟩
        · exact ⟨by cases neg <;> simp [eqGuard], binOp_eql (equalIn_succ fun d => by rw [Op.equalIn, Sem.run_bind, run_underlying hc]; rfl) (by simp) (by simp) (by simp) (by simp) neg⟩
      · simp at k2
  | st ks =>
    obtain ⟨fields, hc, hf, hge, hst, rfl⟩ := hc
    simp only [eqV] at h
    split at h
    · cases hx with
      | ag xs us h1 hxs =>
        cases hy with
        | ag ys vs h2 hys =>
          have heq := fun d => eqCs_rel (P := P) (fs := fields.toList) [] [] hf rfl hxs hys h d
          refine ⟨?_, binOp_eql (equalIn_succ fun d => ?_) (by simp) (by simp) (by simp) (by simp) neg⟩
          · cases neg <;> simp [eqGuard, hge]
          · have hff : P.fieldsOf t = fields := by simp [Program.fieldsOf, hc]
            rw [run_equalIn_struct (P := P) W (d + 1) t us.toArray vs.toArray (by rw [hff]; exact hc) hst, hff]
            exact heq d
    · simp at h
end
end Go.Ab
