/- Operations that only tell. -/
import Derived.Test.YtmikgopohkbbfaaS9
namespace Go.Ab
open Go.RowKit (Below)
theorem oE_some {α β : Type} {x : Option α} {f : α → Option β} {y : β} (h : oE (none : Option β) x f = some y) : ∃ v, x = some v ∧ f v = some y := by
  cases x with
  | none => simp [oE] at h
  | some v => exact ⟨v, rfl, h⟩
section
variable {P : Program} {an : An} {G0 : Gh} {W0 : World} {G G' : Gh} {W : World} {S S' : St} {rho : Nat → Nat} {E : Env} {a : Act} {nt : Nat}
theorem done_adr (h : ARel G0 W0 G W rho E a nt) (hs : SRel G W S) {s : Sem Next} {t off : Nat} (hr : s.run P W = .ok (.value (.pointer (some ⟨rho t, off, none⟩))) W) (ht : (E.r.get t).isSome = true) : Done P G0 W0 nt a s W (.adr t off) E S :=
  ⟨_, W, G, rho, .inl hr, ⟨rfl, ht⟩, h, hs⟩
theorem run_v {s : Sem Value} {u : Value} {W' : World} (h : s.run P W = .ok u W') : (do pure (Next.value (← s)) : Sem Next).run P W = .ok (.value u) W' := by simp [h]
/-! ### Numbers and strings -/
theorem binI_rel {op : BinOp} {k : IntKind} {x y : Int} {z : AV} (xt : TypeId) (h : binI op k x y = some z) : ∃ w, (binOp op xt (.int k x) (.int k y)).run P W = .ok w W ∧ VRel G W z w := by
  cases op <;> simp only [binI, Option.some.injEq, reduceCtorEq] at h
  case quo => split at h
              · simp at h
              · rename_i hne
                simp only [Option.some.injEq] at h; subst h
                exact ⟨_, by simp [binOp, Op.intDiv, hne], .i _ _⟩
  case rem => split at h
              · simp at h
              · rename_i hne
                simp only [Option.some.injEq] at h; subst h
                exact ⟨_, by simp [binOp, Op.intDiv, hne], .i _ _⟩
  all_goals subst h
  case add => exact ⟨_, by simp [binOp, Op.intArith], .i _ _⟩
  case sub => exact ⟨_, by simp [binOp, Op.intArith], .i _ _⟩
  case mul => exact ⟨_, by simp [binOp, Op.intArith], .i _ _⟩
  case and => exact ⟨_, by simp only [binOp, ne_eq, not_true_eq_false, if_false]; rfl, .i _ _⟩
  case or => exact ⟨_, by simp only [binOp, ne_eq, not_true_eq_false, if_false]; rfl, .i _ _⟩
  case xor => exact ⟨_, by simp only [binOp, ne_eq, not_true_eq_false, if_false]; rfl, .i _ _⟩
  all_goals exact ⟨_, by simp [binOp, Op.intCmp], .b _⟩
theorem binV_rel {op : BinOp} {x y z : AV} {u v : Value} (xt : TypeId) (hx : VRel G W x u) (hy : VRel G W y v) (h : binV op x y = some z) : ∃ w, (binOp op xt u v).run P W = .ok w W ∧ VRel G W z w ∧ (∀ p q, (eqGuard op xt p q u v).run P W = .ok () W) := by
  unfold binV at h
  split at h
  · rename_i k n k' n'
    cases hx; cases hy
    have hg : ∀ p q, (eqGuard op xt p q (.int k n) (.int k' n')).run P W = .ok () W := fun p q => by cases op <;> simp [eqGuard]
    split at h
    · unfold shI at h
      split at h
      · simp at h
      · rename_i hne
        simp only [Option.some.injEq] at h; subst h
        exact ⟨_, by simp [binOp, Op.shift, hne], .i _ _, hg⟩
    · unfold shI at h
      split at h
      · simp at h
      · rename_i hne
        simp only [Option.some.injEq] at h; subst h
        exact ⟨_, by simp [binOp, Op.shift, hne], .i _ _, hg⟩
    · split at h
      · rename_i hk
        subst hk
        obtain ⟨w, h1, h2⟩ := binI_rel (P := P) (G := G) (W := W) xt h
        exact ⟨w, h1, h2, hg⟩
      · simp at h
  · rename_i s t
    cases hx; cases hy
    have hg : ∀ p q, (eqGuard op xt p q (.string ⟨s.toArray⟩) (.string ⟨t.toArray⟩)).run P W = .ok () W := fun p q => by cases op <;> simp [eqGuard]
    have happ : (ByteArray.mk s.toArray) ++ (ByteArray.mk t.toArray) = ByteArray.mk (s ++ t).toArray := by
      apply ByteArray.ext
      rw [ByteArray.data_append]; simp
    have hsz : ∀ l : List UInt8, (ByteArray.mk l.toArray).size = l.length := fun l => by simp [ByteArray.size]
    unfold binS at h
    cases op <;> simp only [Option.some.injEq, reduceCtorEq] at h
    case add =>
      split at h
      · rename_i hlt
        simp only [Option.some.injEq] at h; subst h
        refine ⟨_, ?_, .s (s ++ t), hg⟩
        have hn : ¬ (9223372036854775807 < ((s.length : Int) + (t.length : Int))) := by omega
        have hmax : IntKind.i64.max = 9223372036854775807 := by decide
        simp [binOp, Op.stringOp, hsz, hmax, hn, happ]
      · simp at h
    all_goals
      subst h
      exact ⟨_, by simp [binOp, Op.stringOp], .b _, hg⟩
  · simp at h
end
end Go.Ab
