/- How an operation hands on; which operations are calls. -/
import Derived.Test.YtmikgopohkbbfaaS25
namespace Go.Ab
section
variable {P : Program} {an : An} {fid : FuncId}
theorem oE_congr {α β γ : Type} {x : Option α} {f : α → Option γ} {g : α → Option β} {h : β → Option γ} (e : ∀ v, f v = (g v).bind h) : oE none x f = (oE none x g).bind h := by
  cases x with
  | none => rfl
  | some v => exact e v
theorem stepOp_bind {γ : Type} (E : Env) (S : St) (d : Nat) (op : Op) (K : Rs → Env → St → Option γ) : stepOp none E S d op K = (stepO E S d op).bind fun q => K q.1 q.2.1 q.2.2 := by
  cases op <;> simp only [stepO, stepOp] <;> (repeat' first | rfl | (refine oE_congr (fun _ => ?_)) | split)
theorem cOp_call_inv {p : Oper} {f : O} {as : List O} (hop : cOp P an fid p = some (.call f as)) : ∃ c fv, p.op = .call c ∧ c.callee = .value fv ∧ cOs an c.args.toList = some as ∧ cO an fv = some f := by
  cases ho : p.op with
  | call c =>
    cases hb : c.callee with
    | value fv =>
      simp only [cOp, ho, hb, Option.bind_eq_some_iff, Option.map_eq_some_iff] at hop
      obtain ⟨as', has, f', hf', hop⟩ := hop
      simp only [Op.call.injEq] at hop
      obtain ⟨rfl, rfl⟩ := hop
      exact ⟨c, fv, rfl, hb, has, hf'⟩
    | builtin b =>
      exfalso
      simp only [cOp, ho, hb, Option.bind_eq_some_iff] at hop
      obtain ⟨as', has, hop⟩ := hop
      cases b <;> simp only at hop <;> (repeat' split at hop) <;> simp [Option.bind_eq_some_iff] at hop
      all_goals (obtain ⟨_, _, _, _, _, _, hop⟩ := hop; (repeat' split at hop) <;> simp at hop)
    | invoke _ _ => simp [cOp, ho, hb] at hop
  | makeFunc fn _ _ =>
    exfalso
    cases fn <;> simp [cOp, ho, Option.bind_eq_some_iff] at hop
  | _ =>
    exfalso
    simp only [cOp, ho] at hop
    first
      | (simp [Option.bind_eq_some_iff] at hop; done)
      | ((repeat' split at hop) <;> simp [Option.bind_eq_some_iff] at hop; done)
      | (simp at hop)
end
end Go.Ab
