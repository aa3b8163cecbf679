/- A list of operations does what the machine of values does. -/
import Derived.Test.YtmikgopohkbbfaaS26a
namespace Go.Ab
open Go.RowKit (Below)
/-- A call that comes back with a value. -/
def CallOk (P : Program) (f : FuncId) (us : Array Value) (W : World) (R : Value → World → Prop) : Prop :=
  ((callFunc f us).run P W = .ok (.enter f us) W ∧ Calls P f us W (fun e w => match e with | .returned v => R v w | _ => False)) ∨ ∃ u W', (callFunc f us).run P W = .ok (.value u) W' ∧ R u W'
/-- What is said of a function's call. -/
def FnOk (P : Program) (an : An) (f : FuncId) (as : List AV) (S : St) (v : AV) (S' : St) : Prop :=
  ∀ G W us, Globs an G W → VRels G W as us → SRel G W S → CallOk P f us.toArray W (fun u W' => ∃ G', VRel G' W' v u ∧ SRel G' W' S' ∧ Ext G W G' W')
def RecOk (P : Program) (an : An) (rc : Rec) : Prop := ∀ f as S v S', rc f as S = some (v, S') → FnOk P an f as S v S'
section
variable {P : Program} {an : An} {fid : FuncId} {G0 : Gh} {W0 : World} {G G' : Gh} {W : World} {S S' : St} {rho : Nat → Nat} {E E' : Env} {a : Act} {nt : Nat} {r : Rs} {rc : Rec}
theorem Globs.mono (h : Globs an G W) {G' : Gh} {W' : World} (e : VExt G W G' W') : Globs an G' W' := fun g cs hg => (h g cs hg).mono e
theorem wants_rel (h : ARel G0 W0 G W rho E a nt) {ops : Array Oper} {p : Oper} {g : Option (Nat × Bool)} {t : Bool} (hc : cGuard ops p.guard = some g) (hw : wants E g = some t) : Region.wanted p (yielded ops a.tmps) = t := by
  unfold Region.wanted
  cases hp : p.guard with
  | none =>
    rw [hp] at hc
    simp only [cGuard, Option.some.injEq] at hc
    subst hc
    simp only [wants, Option.some.injEq] at hw
    exact hw
  | some q =>
    obtain ⟨j, w⟩ := q
    rw [hp] at hc
    simp only [cGuard, Option.map_eq_some_iff] at hc
    obtain ⟨d, hd, rfl⟩ := hc
    simp only [wants] at hw
    split at hw
    · rename_i x hx
      obtain ⟨u, hu, hr⟩ := h.t _ _ hx
      cases hr
      simp only [Option.some.injEq] at hw
      subst hw
      simp only [yielded, hd, Option.bind_some, hu]
      cases x <;> cases w <;> rfl
    · simp at hw
theorem step_sound {β : Type} {y : β} {Q : Exit → Act → World → Prop} {N : Act → World → Prop} (hrc : RecOk P an rc) (hg : Globs an G0 W0) (hnt : ((P.funcs[fid]?).map (·.ntmps)).getD 0 = nt) {ops : Array Oper} {p : Oper} {o : AOper} (hc : cOper P an fid ops p = some o)
    (h : ARel G0 W0 G W rho E a nt) (hs : SRel G W S) {k : Env → St → Option β} (hst : stepG none (callE rc) o E S k = some y)
    (next : ∀ E' S' a' W' G' rho', ARel G0 W0 G' W' rho' E' a' nt → SRel G' W' S' → k E' S' = some y → N a' W') :
    if Region.wanted p (yielded ops a.tmps) then p.wp P a W N Q ∨ (p.asks P a W ∧ LetsOut Q) else N (a.put p.dst undef) W := by
  simp only [cOper, Option.bind_eq_some_iff] at hc
  obtain ⟨op, hop, g, hgd, hc⟩ := hc
  split at hc
  case isFalse => simp at hc
  rename_i hdst
  simp only [Option.some.injEq] at hc
  subst hc
  have hd : ∀ x, p.dst = some x → x < nt := by
    intro x hx
    rw [hx] at hdst
    simp only [dstOk, decide_eq_true_eq] at hdst
    rw [← hnt]; exact hdst
  simp only [stepG] at hst
  obtain ⟨t, ht, hst⟩ := oE_some hst
  rw [wants_rel h hgd ht]
  cases t with
  | false =>
    simp only [Bool.false_eq_true, if_false]
    refine next (drop E p.dst) S _ W G rho ?_ hs hst
    cases hpd : p.dst with
    | none => exact h
    | some d => exact clr_rel h d undef
  | true =>
    simp only [if_true]
    left
    have fin : ∀ {r : Rs} {E1 : Env} {S1 : St}, Done P G0 W0 nt a (execOp a.eval p) W r E1 S1 → putK none E1 p.dst (cKd P p.type) r (fun E' => k E' S1) = some y → p.wp P a W N Q := by
      intro r E1 S1 hdone hk
      obtain ⟨u, W', G1, rho1, hrun, hr, ha, hs1⟩ := hdone
      obtain ⟨E2, hk2, ha2⟩ := put_rel ha hd hr hk
      have := next _ _ _ _ _ _ ha2 hs1 hk2
      rcases hrun with hrun | ⟨hrun, rfl⟩ <;> (unfold Oper.wp; rw [hrun]; exact this)
    simp only at hst
    split at hst
    · -- a call
      rename_i f args
      obtain ⟨c, fv, ho, hb, has, hf'⟩ := cOp_call_inv hop
      simp only [stepCall] at hst
      obtain ⟨v, hv, hst⟩ := oE_some hst
      have hrf := op_rel hg h hf' hv
      split at hst
      · rename_i g1 first cap
        obtain ⟨vs, hvs, hst⟩ := oE_some hst
        have hrs := ops_rel hg h has hvs
        simp only [callE] at hst
        split at hst
        · rename_i w S1 hcall
          generalize hfu : a.eval fv = fu at hrf
          cases hrf with
          | fn _ _ _ us1 us2 hr1 hr2 =>
            have hargs : VRels G W (first ++ vs ++ cap) (us1 ++ c.args.toList.map a.eval ++ us2) := VRels.append (VRels.append hr1 hrs) hr2
            have hok := hrc _ _ _ _ _ hcall G W _ (hg.mono h.e0.toVExt) hargs hs
            have hex : (execOp a.eval p).run P W = (callFunc g1 (us1 ++ c.args.toList.map a.eval ++ us2).toArray).run P W := by
              have harr : us1.toArray ++ (c.args.map a.eval ++ us2.toArray) = (us1 ++ (c.args.toList.map a.eval ++ us2)).toArray := by
                apply Array.ext'; simp
              simp [execOp, ho, resolve, hb, hfu, Deferred.ofValue, invoke]
              rw [harr]
            have ret : ∀ u W1, (∃ G', VRel G' W1 w u ∧ SRel G' W1 S1 ∧ Ext G W G' W1) → N (a.put p.dst u) W1 := by
              rintro u W1 ⟨G1, hv1, hs1, hx1⟩
              obtain ⟨E2, hk2, ha2⟩ := put_rel (r := .val w) (h.mono hx1) hd hv1 hst
              exact next _ _ _ _ _ _ ha2 hs1 hk2
            rcases hok with ⟨he, hcalls⟩ | ⟨u, W1, he, hR⟩
            · unfold Oper.wp
              rw [hex, he, Oper.upon_enter]
              refine hcalls.mono ?_
              intro e W1 hR
              cases e with
              | returned u => exact ret u W1 hR
              | panicked _ => exact hR.elim
              | outgrown => exact hR.elim
            · unfold Oper.wp
              rw [hex, he, Oper.upon_value]
              exact ret u W1 hR
        · simp at hst
      · simp at hst
    · rename_i hnc
      rw [stepOp_bind] at hst
      obtain ⟨⟨r1, E1, S1⟩, hq, hst⟩ := Option.bind_eq_some_iff.1 hst
      exact fin (op_sound hg h hs hop hq) hst
end
end Go.Ab
