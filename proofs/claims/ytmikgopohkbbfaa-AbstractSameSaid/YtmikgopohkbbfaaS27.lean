/- Lists of operations; code. -/
import Derived.Test.YtmikgopohkbbfaaS26
import Derived.ScopeJumps
namespace Go.Ab
open Go.RowKit (Below)
section
variable {P : Program} {an : An} {fid : FuncId} {G0 : Gh} {W0 : World} {nt : Nat} {rc : Rec}
/-- These operations stand there. -/
def OpsAt (P : Program) (an : An) (fid : FuncId) (ops : Array Oper) : List Nat → List AOper → Prop
  | [], [] => True
  | i :: is, o :: l => (∃ p, ops[i]? = some p ∧ cOper P an fid ops p = some o) ∧ OpsAt P an fid ops is l
  | _, _ => False
theorem runOps_sound {β : Type} {y : β} {Q : Exit → Act → World → Prop} (hrc : RecOk P an rc) (hg : Globs an G0 W0) (hnt : ((P.funcs[fid]?).map (·.ntmps)).getD 0 = nt) {ops : Array Oper} {k : Env → St → Option β}
    (next : ∀ E' S' a' W' G' rho', ARel G0 W0 G' W' rho' E' a' nt → SRel G' W' S' → k E' S' = some y → Q .normal a' W') :
    ∀ (l : List AOper) (is : List Nat) {G : Gh} {W : World} {S : St} {rho : Nat → Nat} {E : Env} {a : Act}, OpsAt P an fid ops is l → ARel G0 W0 G W rho E a nt → SRel G W S → runOps none (callE rc) l E S k = some y → wpOps P ops Q is a W
  | [], [], _, _, _, _, _, _, _, h, hs, hr => next _ _ _ _ _ _ h hs hr
  | [], _ :: _, _, _, _, _, _, _, ho, _, _, _ => ho.elim
  | _ :: _, [], _, _, _, _, _, _, ho, _, _, _ => ho.elim
  | o :: l, i :: is, G, W, S, rho, E, a, ho, h, hs, hr => by
    obtain ⟨⟨p, hp, hc⟩, ho⟩ := ho
    simp only [wpOps, hp]
    exact step_sound hrc hg hnt hc h hs hr (fun E' S' a' W' G' rho' h' hs' hr' => runOps_sound hrc hg hnt next l is ho h' hs' hr')
theorem cOps_at {ops : Array Oper} : ∀ (ps : List Oper) (l : List AOper) (m : Nat), (∀ j p, ps[j]? = some p → ops[m + j]? = some p) → cOps P an fid ops ps = some l → OpsAt P an fid ops (List.range' m ps.length) l
  | [], l, m, _, h => by simp [cOps] at h; subst h; trivial
  | p :: ps, l, m, hp, h => by
    simp only [cOps, Option.bind_eq_some_iff, Option.map_eq_some_iff] at h
    obtain ⟨o, ho, os, hos, rfl⟩ := h
    simp only [List.length_cons, List.range'_succ]
    refine ⟨⟨p, by simpa using hp 0 p (by simp), ho⟩, cOps_at ps os (m + 1) (fun j q hq => ?_) hos⟩
    have := hp (j + 1) q (by simpa using hq)
    rw [show m + 1 + j = m + (j + 1) by omega]; exact this
/-- A loop, round by round. -/
def LoopAt (P : Program) (c : Code) (Q : Exit → Act → World → Prop) (a : Act) (w : World) : Prop :=
  ∀ b k cs, ∃ e a' w', Q e a' w' ∧ Arrives P (lone (b.at a (.code c :: .inLoop c :: k)) cs w) b k cs e a' w'
theorem wp_of_loopAt {c : Code} {Q : Exit → Act → World → Prop} {a : Act} {w : World} (h : LoopAt P c Q a w) : (Code.loop c).wp P Q a w :=
  fun b k cs => let ⟨e, a', w', hq, harr⟩ := h b k cs; ⟨e, a', w', hq, .of_steps (.one step_loop) harr⟩
theorem loopAt_of {c : Code} {Q : Exit → Act → World → Prop} {a : Act} {w : World} (h : c.wp P (Exit.then (LoopAt P c Q) Q) a w) : LoopAt P c Q a w := by
  intro b k cs
  obtain ⟨e, a₁, w₁, hq, harr⟩ := h b (.inLoop c :: k) cs
  cases e with
  | normal =>
    obtain ⟨e₂, a₂, w₂, hq₂, harr₂⟩ := hq b k cs
    exact ⟨e₂, a₂, w₂, hq₂, .of_steps (Steps.trans harr (.one step_inLoop)) harr₂⟩
  | exit id => exact ⟨_, a₁, w₁, hq, .pass (x := .inLoop c) rfl (fun _ _ => .inl (by simp)) harr⟩
  | goto l => exact ⟨_, a₁, w₁, hq, .pass (x := .inLoop c) rfl (fun _ _ => .inl (by simp)) harr⟩
  | ret => exact ⟨_, a₁, w₁, hq, .pass (x := .inLoop c) rfl (fun _ _ => .inl (by simp)) harr⟩
  | panic ch => exact ⟨_, a₁, w₁, hq, .pass (x := .inLoop c) rfl (fun _ _ => .inl (by simp)) harr⟩
  | outgrown => exact ⟨_, a₁, w₁, hq, .pass (x := .inLoop c) rfl (fun _ _ => .inl (by simp)) harr⟩
end
/-! ### Code -/
def Ex.to : Ex → Exit
  | .nor => .normal | .exit id => .exit id | .goto l => .goto l | .ret => .ret
section
variable {P : Program} {an : An} {fid : FuncId} {G0 : Gh} {W0 : World} {nt : Nat} {rc : Rec}
/-- A region that draws its order: what is asked of it. -/
def DrOk (P : Program) (an : An) (fid : FuncId) (rc : Rec) (nt : Nat) : Prop :=
  ∀ (ops : Array Oper) (d : List (AOper × List AOper)), cDr P an fid ops = some d → ∀ {β : Type} {y : β} {Q : Exit → Act → World → Prop} {k : Env → St → Option β} {G0 : Gh} {W0 : World} {G : Gh} {W : World} {S : St} {rho : Nat → Nat} {E : Env} {a : Act},
    Globs an G0 W0 → ARel G0 W0 G W rho E a nt → SRel G W S → runDr none (callE rc) d E S k = some y →
    (∀ E' S' a' W' G' rho', ARel G0 W0 G' W' rho' E' a' nt → SRel G' W' S' → k E' S' = some y → Q .normal a' W') →
    ∀ t, wpOps P ops Q (Region.schedule (P.follows .mixedOrders) ops t) a W
theorem evC_sound (hrc : RecOk P an rc) (hdr : DrOk P an fid rc nt) (hg : Globs an G0 W0) (hnt : ((P.funcs[fid]?).map (·.ntmps)).getD 0 = nt) :
    ∀ (n : Nat) (c : C) (f : Nat) (ex : List (Nat × List Nat)) (rt : List Nat) (code : Code) (out lv : List Nat), cC P an fid f ex rt code out = some (c, lv) →
    ∀ {G : Gh} {W : World} {S : St} {rho : Nat → Nat} {E : Env} {a : Act} {x : Ex} {E1 : Env} {S1 : St} {Q : Exit → Act → World → Prop}, ARel G0 W0 G W rho E a nt → SRel G W S → evC rc n c E S = some (x, E1, S1) →
    (∀ a' W' G' rho', ARel G0 W0 G' W' rho' E1 a' nt → SRel G' W' S1 → Q x.to a' W') → code.wp P Q a W := by
  intro n
  induction n using Nat.strongRecOn with
  | _ n0 ih0 =>
  cases n0 with
  | zero => intro c f ex rt code out lv _ G W S rho E a x E1 S1 Q _ _ he; simp [evC] at he
  | succ n =>
    have ih := ih0 n (Nat.lt_succ_self n)
    intro c f ex rt code out lv hc G W S rho E a x E1 S1 Q h hs he hq
    cases f with
    | zero => simp [cC] at hc
    | succ f =>
    cases code with
    | skip =>
      simp only [cC, Option.some.injEq, Prod.mk.injEq] at hc
      obtain ⟨rfl, rfl⟩ := hc
      simp only [evC, Option.some.injEq, Prod.mk.injEq] at he
      obtain ⟨rfl, rfl, rfl⟩ := he
      exact wp_skip (hq _ _ _ _ h hs)
    | label l =>
      simp only [cC, Option.some.injEq, Prod.mk.injEq] at hc
      obtain ⟨rfl, rfl⟩ := hc
      simp only [evC, Option.some.injEq, Prod.mk.injEq] at he
      obtain ⟨rfl, rfl, rfl⟩ := he
      exact wp_label (hq _ _ _ _ h hs)
    | exit id =>
      simp only [cC, Option.some.injEq, Prod.mk.injEq] at hc
      obtain ⟨rfl, rfl⟩ := hc
      simp only [evC, Option.some.injEq, Prod.mk.injEq] at he
      obtain ⟨rfl, rfl, rfl⟩ := he
      exact wp_exit (hq _ _ _ _ h hs)
    | goto l =>
      simp only [cC, Option.some.injEq, Prod.mk.injEq] at hc
      obtain ⟨rfl, rfl⟩ := hc
      simp only [evC, Option.some.injEq, Prod.mk.injEq] at he
      obtain ⟨rfl, rfl, rfl⟩ := he
      exact wp_goto (hq _ _ _ _ h hs)
    | ret =>
      simp only [cC, Option.some.injEq, Prod.mk.injEq] at hc
      obtain ⟨rfl, rfl⟩ := hc
      simp only [evC, Option.some.injEq, Prod.mk.injEq] at he
      obtain ⟨rfl, rfl, rfl⟩ := he
      exact wp_ret (hq _ _ _ _ h hs)
    | seq c1 c2 =>
      simp only [cC, Option.bind_eq_some_iff, Option.map_eq_some_iff] at hc
      obtain ⟨⟨b', lb⟩, hb, ⟨a', la⟩, ha, hce⟩ := hc
      simp only [Prod.mk.injEq] at hce
      obtain ⟨rfl, rfl⟩ := hce
      simp only [evC] at he
      split at he
      · rename_i E2 S2 h1
        exact wp_seq (ih _ _ _ _ _ _ _ ha h hs h1 (fun a' W' G' rho' h' hs' => ih _ _ _ _ _ _ _ hb h' hs' he hq))
      · rename_i hne
        refine wp_seq (ih _ _ _ _ _ _ _ ha h hs he (fun a' W' G' rho' h' hs' => ?_))
        have := hq a' W' G' rho' h' hs'
        cases x with
        | nor => exact absurd he (hne _ _)
        | _ => exact this
    | region id ops drawn =>
      cases drawn with
      | false =>
        simp only [cC, Option.map_eq_some_iff] at hc
        obtain ⟨l, hl, hce⟩ := hc
        simp only [Prod.mk.injEq] at hce
        obtain ⟨rfl, rfl⟩ := hce
        simp only [evC] at he
        refine wp_region ?_
        have hat := cOps_at (P := P) (an := an) (fid := fid) (ops := ops) ops.toList l 0 (fun j p hp => by simpa using hp) hl
        rw [Array.length_toList, ← List.range_eq_range'] at hat
        refine runOps_sound hrc hg hnt (fun E' S' a' W' G' rho' h' hs' hk => ?_) l _ hat h hs he
        simp only [Option.some.injEq, Prod.mk.injEq] at hk
        obtain ⟨rfl, rfl, rfl⟩ := hk
        exact hq _ _ _ _ (keep_rel h' _) hs'
      | true =>
        simp only [cC, Option.bind_eq_some_iff, Option.map_eq_some_iff] at hc
        obtain ⟨l, hl, d, hd, hce⟩ := hc
        simp only [Prod.mk.injEq] at hce
        obtain ⟨rfl, rfl⟩ := hce
        simp only [evC] at he
        refine wp_region_draw (fun t => ?_)
        have hdw : Ext G W G { W with drawn := W.drawn + 1 } := ext_drew G W
        refine hdr ops d hd hg (h.mono hdw) (srel_drew hs) he (fun E' S' a' W' G' rho' h' hs' hk => ?_) t
        simp only [Option.some.injEq, Prod.mk.injEq] at hk
        obtain ⟨rfl, rfl, rfl⟩ := hk
        exact hq _ _ _ _ (keep_rel h' _) hs'
    | cond cc c1 c2 =>
      simp only [cC, Option.bind_eq_some_iff, Option.map_eq_some_iff] at hc
      obtain ⟨cc', hcc, ⟨a', la⟩, ha, ⟨b', lb⟩, hb, hce⟩ := hc
      simp only [Prod.mk.injEq] at hce
      obtain ⟨rfl, rfl⟩ := hce
      simp only [evC] at he
      split at he
      · rename_i t ht
        have hr := op_rel hg h hcc ht
        generalize hu : a.eval cc = u at hr
        cases hr
        refine wp_cond hu ?_
        cases t with
        | true => simp only [if_true] at he ⊢; exact ih _ _ _ _ _ _ _ ha h hs he hq
        | false => simp only [Bool.false_eq_true, if_false] at he ⊢; exact ih _ _ _ _ _ _ _ hb h hs he hq
      · simp at he
    | block id c1 =>
      simp only [cC, Option.map_eq_some_iff] at hc
      obtain ⟨⟨a', la⟩, ha, hce⟩ := hc
      simp only [Prod.mk.injEq] at hce
      obtain ⟨rfl, rfl⟩ := hce
      simp only [evC] at he
      split at he
      · rename_i j E2 S2 h1
        simp only [Option.some.injEq, Prod.mk.injEq] at he
        obtain ⟨hx, rfl, rfl⟩ := he
        refine wp_block (ih _ _ _ _ _ _ _ ha h hs h1 (fun a' W' G' rho' h' hs' => ?_))
        have := hq a' W' G' rho' h' hs'
        simp only [Ex.to, Exit.inBlock]
        split at hx
        · rename_i hj; rw [if_pos hj]; subst hx; exact this
        · rename_i hj; rw [if_neg hj]; subst hx; exact this
      · rename_i hne
        refine wp_block (ih _ _ _ _ _ _ _ ha h hs he (fun a' W' G' rho' h' hs' => ?_))
        have := hq a' W' G' rho' h' hs'
        cases x with
        | exit j => exact absurd he (hne _ _ _)
        | _ => exact this
    | loop c1 =>
      simp only [cC, Option.bind_eq_some_iff, Option.map_eq_some_iff] at hc
      obtain ⟨⟨q1, l1⟩, _, ⟨q2, l2⟩, _, ⟨c', l3⟩, hb, hce⟩ := hc
      simp only [Prod.mk.injEq] at hce
      obtain ⟨rfl, rfl⟩ := hce
      refine wp_of_loopAt ?_
      have key : ∀ m, m ≤ n + 1 → ∀ {G : Gh} {W : World} {S : St} {rho : Nat → Nat} {E : Env} {a : Act}, ARel G0 W0 G W rho E a nt → SRel G W S → evC rc m (.loop (uniL l1 l2) c') E S = some (x, E1, S1) → LoopAt P c1 Q a W := by
        intro m
        induction m with
        | zero => intro _ G W S rho E a _ _ he; simp [evC] at he
        | succ m ihm =>
          intro hm G W S rho E a h hs he
          simp only [evC] at he
          split at he
          · rename_i E2 S2 h1
            exact loopAt_of (ih0 m (by omega) _ _ _ _ _ _ _ hb (keep_rel h _) hs h1 (fun a' W' G' rho' h' hs' => ihm (by omega) h' hs' he))
          · rename_i hne
            refine loopAt_of (ih0 m (by omega) _ _ _ _ _ _ _ hb (keep_rel h _) hs he (fun a' W' G' rho' h' hs' => ?_))
            have := hq a' W' G' rho' h' hs'
            cases x with
            | nor => exact absurd he (hne _ _)
            | _ => exact this
      exact key (n + 1) (Nat.le_refl _) h hs he
    | scope c1 =>
      simp only [cC] at hc
      split at hc
      · rename_i l hl
        split at hc
        · rename_i r hr
          simp only [Option.bind_eq_some_iff, Option.map_eq_some_iff] at hc
          obtain ⟨⟨r', lr⟩, hrr, ⟨c', lc⟩, hcc, hce⟩ := hc
          simp only [Prod.mk.injEq] at hce
          obtain ⟨rfl, rfl⟩ := hce
          simp only [evC] at he
          split at he
          · rename_i j E2 S2 h1
            split at he
            · rename_i hj
              subst hj
              split at he
              · simp at he
              · rename_i hng
                refine wp_scope_jumps j (fun a' W' => ∃ G' rho', ARel G0 W0 G' W' rho' E2 a' nt ∧ SRel G' W' S2) (fun _ _ => 0) hr ?_ ?_
                · exact ih _ _ _ _ _ _ _ hcc h hs h1 (fun a' W' G' rho' h' hs' => ⟨rfl, G', rho', h', hs'⟩)
                · rintro a' W' ⟨G', rho', h', hs'⟩
                  refine ih _ _ _ _ _ _ _ hrr h' hs' he (fun a2 W2 G2 rho2 h2 hs2 => ?_)
                  have := hq a2 W2 G2 rho2 h2 hs2
                  cases x with
                  | goto j' => exact absurd he (hng _ _ _)
                  | _ => exact this
            · simp at he
          · rename_i hng
            refine wp_scope_jumps l (fun _ _ => False) (fun _ _ => 0) hr ?_ (fun _ _ hf => hf.elim)
            refine ih _ _ _ _ _ _ _ hcc h hs he (fun a2 W2 G2 rho2 h2 hs2 => ?_)
            have := hq a2 W2 G2 rho2 h2 hs2
            cases x with
            | goto j' => exact absurd he (hng _ _ _)
            | _ => exact this
        · simp at hc
      · simp at hc
    | _ => simp [cC] at hc
end
end Go.Ab
