/- One operation, over two frames that agree where it looks. -/
import Derived.Test.YtmikgopohkbbfaaS30
namespace Go.Ab
open Go.RowKit (Below)
/-- What becomes of the rows of the frame. -/
inductive Ru | id | st (t : Nat) (cs : List AV) | nw (d : Nat) (cs : List AV)
def Env.row (E : Env) : Ru → Env
  | .id => E
  | .st t cs => { t := E.t, p := E.p, r := E.r.set t (some cs), g := E.g }
  | .nw d cs => { t := E.t, p := E.unp d, r := E.r.set d (some cs), g := E.g }
/-- An operation, a call too. -/
def stepX (rc : Rec) (E : Env) (S : St) (d : Nat) (op : Op) : Option (Rs × Env × St) := match op with
  | .call f args => stepCall none (callE rc) E S f args fun v S' => some (.val v, E, S')
  | op => stepO E S d op
theorem stepX_O {rc : Rec} {E : Env} {S : St} {d : Nat} {op : Op} (hn : ∀ f as, op ≠ .call f as) : stepX rc E S d op = stepO E S d op := by
  cases op <;> first | rfl | exact absurd rfl (hn _ _)
def isW : Op → Bool | .st .. => true | op => isL op
def maybeAdr : Op → Bool | .new .. | .box .. | .nchk .. | .fa .. | .iap .. => true | _ => false
theorem noAdr {E : Env} {S : St} {d : Nat} {op : Op} (h : maybeAdr op = false) : stepO E S d op = (stepO E S d op).bind fun q => match q.1 with | .adr _ _ => none | _ => some q := by
  cases op <;> simp only [maybeAdr, Bool.true_eq_false] at h <;> simp only [stepO, stepOp] <;> (repeat' first | rfl | (refine oE_congr (fun _ => ?_)) | split)
/-- Where a place in the frame comes from. -/
theorem adr_src {E E' : Env} {S S' : St} {d : Nat} {op : Op} {t off : Nat} (h : stepO E S d op = some (.adr t off, E', S')) : (isRg op = true ∧ t = d) ∨ ∃ n ∈ usesO (opO op), ∃ off', E.p.get n = some (t, off') := by
  have adr : ∀ {x : O} {t' off' : Nat}, E.ad x = some (.rg t' off') → ∃ n, x = .t n ∧ E.p.get n = some (t', off') := by
    intro x t' off' hx
    cases x with
    | c v => simp [Env.ad] at hx
    | t n =>
      refine ⟨n, rfl, ?_⟩
      simp only [Env.ad] at hx
      split at hx
      · rename_i a b hp
        simp only [Option.some.injEq, Ad.rg.injEq] at hx
        rw [hp, hx.1, hx.2]
      · cases hq : E.t.get n <;> simp [hq] at hx
  have fa : ∀ {x : Ad} {k : Nat}, faV k x = some (.adr t off) → ∃ o', x = .rg t o' := by
    intro x k hx
    cases x with
    | rg a b => simp only [faV, Option.some.injEq, Rs.adr.injEq] at hx; exact ⟨b, by rw [hx.1]⟩
    | v y => cases y <;> simp [faV] at hx
  cases op with
  | new m z =>
    left
    cases m <;> simp only [stepO, stepOp] at h
    · split at h
      · simp at h
      · simp at h; exact ⟨rfl, h.1.1.symm⟩
    all_goals simp at h
  | box m n x =>
    left
    simp only [stepO, stepOp] at h
    obtain ⟨v, hv, h⟩ := oE_some h
    split at h
    · simp at h
    · cases m
      · simp only at h
        split at h
        · simp at h
        · simp at h; exact ⟨rfl, h.1.1.symm⟩
      all_goals simp at h
  | nchk x =>
    right
    simp only [stepO, stepOp] at h
    obtain ⟨a, ha, h⟩ := oE_some h
    obtain ⟨r, hr, h⟩ := oE_some h
    simp only [Option.some.injEq, Prod.mk.injEq] at h
    obtain ⟨rfl, _, _⟩ := h
    cases a with
    | rg a b =>
      simp only [nchkV, Option.some.injEq, Rs.adr.injEq] at hr
      obtain ⟨n, rfl, hp⟩ := adr ha
      exact ⟨n, by simp [opO, usesO], b, by rw [hp, hr.1]⟩
    | v y => cases y <;> simp [nchkV] at hr
  | fa k x =>
    right
    simp only [stepO, stepOp] at h
    obtain ⟨a, ha, h⟩ := oE_some h
    obtain ⟨r, hr, h⟩ := oE_some h
    simp only [Option.some.injEq, Prod.mk.injEq] at h
    obtain ⟨rfl, _, _⟩ := h
    obtain ⟨o', rfl⟩ := fa hr
    obtain ⟨n, rfl, hp⟩ := adr ha
    exact ⟨n, by simp [opO, usesO], o', hp⟩
  | iap sz len x j =>
    right
    simp only [stepO, stepOp] at h
    obtain ⟨a, ha, h⟩ := oE_some h
    obtain ⟨k, hk, h⟩ := oE_some h
    split at h
    · obtain ⟨r, hr, h⟩ := oE_some h
      simp only [Option.some.injEq, Prod.mk.injEq] at h
      obtain ⟨rfl, _, _⟩ := h
      obtain ⟨o', rfl⟩ := fa hr
      obtain ⟨n, rfl, hp⟩ := adr ha
      exact ⟨n, by cases j <;> simp [opO, usesO], o', hp⟩
    · simp at h
  | _ =>
    exfalso
    rw [noAdr (by rfl)] at h
    simp only [Option.bind_eq_some_iff] at h
    obtain ⟨q, _, h⟩ := h
    split at h
    · simp at h
    · rename_i hq
      simp only [Option.some.injEq] at h
      exact hq _ _ (by rw [h])
section
variable {rc : Rec} {E1 : Env} {S S' : St} {d : Nat} {op : Op} {r : Rs} {E1' : Env}
structure RuOk (E1 : Env) (d : Nat) (op : Op) (u : Ru) (r : Rs) (S S' : St) : Prop where
  st : ∀ t cs, u = .st t cs → (∃ n ∈ usesO (opO op), ∃ off, E1.p.get n = some (t, off))
  nw : ∀ t cs, u = .nw t cs → t = d ∧ isRg op = true ∧ r = .adr d 0 ∧ E1.g.any (fun p => p.2 == d) = false
  rg : isRg op = true → ∃ cs, u = .nw d cs
  adr : ∀ t off, r = .adr t off → (u = .id ∧ ∃ n ∈ usesO (opO op), ∃ off', E1.p.get n = some (t, off')) ∨ (∃ cs, u = .nw t cs)
  pure : isC op = false → isA op = false → u = .id ∧ S' = S
  keep : keepsE op = true → u = .id
theorem stepX_loc (h : stepX rc E1 S d op = some (r, E1', S')) : ∃ u, E1' = E1.row u ∧ RuOk E1 d op u r S S' ∧
    ∀ E2, Agree E1 E2 (usesO (opO op)) → (isW op = true → RowsAgree E1 E2 (usesO (opO op))) → (isRg op = true → E2.g.any (fun p => p.2 == d) = false) → stepX rc E2 S d op = some (r, E2.row u, S') := by
  by_cases hk : keepsE op = true
  · have hn : ∀ f as, op ≠ .call f as := by rintro f as rfl; simp [keepsE] at hk
    have hst : ∀ n a x, op ≠ .st n a x := by rintro n a x rfl; simp [keepsE] at hk
    have hw : isW op = isL op := by cases op <;> first | rfl | exact absurd rfl (hst _ _ _)
    have hrg : isRg op = false := by cases op <;> first | rfl | (simpa [keepsE] using hk) | exact absurd rfl (hst _ _ _)
    rw [stepX_O hn] at h
    have h0 := h
    rw [stepO_V hk] at h
    obtain ⟨⟨r0, S0⟩, hv, h⟩ := Option.bind_eq_some_iff.1 h
    simp only [Option.some.injEq, Prod.mk.injEq] at h
    obtain ⟨rfl, rfl, rfl⟩ := h
    refine ⟨.id, rfl, ⟨by simp, by simp, by simp [hrg], ?_, ?_, fun _ => rfl⟩, ?_⟩
    · rintro t off rfl
      rcases adr_src h0 with ⟨h1, _⟩ | h1
      · rw [hrg] at h1; simp at h1
      · exact .inl ⟨rfl, h1⟩
    · intro hc ha
      rw [stepV_R hc ha] at hv
      obtain ⟨r1, _, hv⟩ := Option.bind_eq_some_iff.1 hv
      simp only [Option.some.injEq, Prod.mk.injEq] at hv
      exact ⟨rfl, hv.2.symm⟩
    · intro E2 hag hra _
      rw [stepX_O hn, stepO_V hk, congV hk hag (fun hl => hra (by rw [hw]; exact hl)), hv]
      rfl
  · cases op <;> simp only [keepsE, isRg, Bool.not_true, Bool.not_false, not_true] at hk
    case call f args =>
      simp only [stepX, stepCall] at h
      obtain ⟨v, hv, h⟩ := oE_some h
      have hE2 : ∀ E2, Agree E1 E2 (usesO (opO (.call f args))) → E2.op f = E1.op f ∧ E2.ops args = E1.ops args := fun E2 hag =>
        ⟨ag_op hag (x := f) (by simp [opO]), ag_ops (as := args) hag (fun x hx => by simp [opO, hx])⟩
      cases v <;> simp only [reduceCtorEq] at h
      rename_i g first cap
      obtain ⟨as, has, h⟩ := oE_some h
      simp only [callE] at h
      split at h
      · rename_i v1 S1 hrc
        simp only [Option.some.injEq, Prod.mk.injEq] at h
        obtain ⟨rfl, rfl, rfl⟩ := h
        refine ⟨.id, rfl, ⟨by simp, by simp, by simp [isRg], by simp, by simp [isC], by simp [keepsE]⟩, ?_⟩
        intro E2 hag _ _
        simp only [stepX, stepCall, (hE2 E2 hag).1, (hE2 E2 hag).2, hv, has, oE, callE, hrc, Env.row]
      · simp at h
    case st n a x =>
      simp only [stepX, stepO, stepOp] at h
      obtain ⟨ad, had, h⟩ := oE_some h
      obtain ⟨v, hv, h⟩ := oE_some h
      split at h
      · simp at h
      rename_i htu
      obtain ⟨⟨E', S1⟩, hst, h⟩ := oE_some h
      simp only [Option.some.injEq, Prod.mk.injEq] at h
      obtain ⟨rfl, rfl, rfl⟩ := h
      have hE2 : ∀ E2, Agree E1 E2 (usesO (opO (.st n a x))) → E2.ad a = E1.ad a ∧ E2.op x = E1.op x := fun E2 hag =>
        ⟨ag_ad hag (x := a) (by simp [opO]), ag_op hag (x := x) (by simp [opO])⟩
      cases ad with
      | rg t off =>
        have hsrc : ∃ m ∈ usesO (opO (.st n a x)), E1.p.get m = some (t, off) := by
          cases a with
          | c v => simp [Env.ad] at had
          | t m =>
            refine ⟨m, by simp [opO, usesO], ?_⟩
            simp only [Env.ad] at had
            split at had
            · rename_i t' off' hp
              simp only [Option.some.injEq, Ad.rg.injEq] at had
              rw [hp, had.1, had.2]
            · cases hq : E1.t.get m <;> simp [hq] at had
        simp only [stV] at hst
        split at hst
        · simp at hst
        rename_i hlen
        split at hst
        · rename_i cs hcs
          split at hst
          · rename_i cs' hp
            simp only [Option.some.injEq, Prod.mk.injEq] at hst
            obtain ⟨rfl, rfl⟩ := hst
            refine ⟨.st t cs', rfl, ⟨fun t' cs'' e => ?_, by simp, by simp [isRg], by simp, by simp [isC], by simp [keepsE]⟩, ?_⟩
            · obtain ⟨m, hm, hp⟩ := hsrc
              cases e
              exact ⟨m, hm, off, hp⟩
            · intro E2 hag hra _
              obtain ⟨m, hm, hpm⟩ := hsrc
              have hrow := hra rfl m hm t off hpm
              simp only [stepX, stepO, stepOp, (hE2 E2 hag).1, (hE2 E2 hag).2, had, hv, oE, htu, stV, hrow, hcs, hp, hlen, ite_false, Env.row]
          · simp at hst
        · simp at hst
      | v y =>
        have hE' : E' = E1 ∧ ∀ E2, stV E2 S n (.v y) v.cells = some (E2, S1) := by
          simp only [stV] at hst ⊢
          split at hst
          · simp at hst
          · rename_i hlen
            simp only [hlen, ite_false]
            cases y <;> simp only [reduceCtorEq] at hst
            · split at hst
              · split at hst
                · simp only [Option.some.injEq, Prod.mk.injEq] at hst
                  obtain ⟨rfl, rfl⟩ := hst
                  exact ⟨rfl, fun _ => by simp [*]⟩
                · simp at hst
              · simp at hst
            · split at hst
              · split at hst
                · split at hst
                  · split at hst
                    · simp only [Option.some.injEq, Prod.mk.injEq] at hst
                      obtain ⟨rfl, rfl⟩ := hst
                      exact ⟨rfl, fun _ => by simp [*]⟩
                    · simp at hst
                  · simp at hst
                · simp at hst
              · simp at hst
        obtain ⟨rfl, hst2⟩ := hE'
        refine ⟨.id, rfl, ⟨by simp, by simp, by simp [isRg], by simp, by simp [isC], by simp [keepsE]⟩, ?_⟩
        intro E2 hag _ _
        simp only [stepX, stepO, stepOp, (hE2 E2 hag).1, (hE2 E2 hag).2, had, hv, oE, htu, hst2 E2, Env.row]
    case new m z =>
      cases m <;> simp at hk
      simp only [stepX, stepO, stepOp] at h
      split at h
      · simp at h
      · rename_i hg
        simp only [Option.some.injEq, Prod.mk.injEq] at h
        obtain ⟨rfl, rfl, rfl⟩ := h
        refine ⟨.nw d z, rfl, ⟨by simp, ?_, fun _ => ⟨z, rfl⟩, ?_, by simp [isA], by simp [keepsE, isRg]⟩, ?_⟩
        · rintro t cs e; cases e; exact ⟨rfl, rfl, rfl, hg⟩
        · rintro t off e; cases e; exact .inr ⟨z, rfl⟩
        · intro E2 _ _ hg2
          simp only [stepX, stepO, stepOp, hg2 rfl, Env.row]
    case box m n x =>
      cases m <;> simp at hk
      simp only [stepX, stepO, stepOp] at h
      obtain ⟨v, hv, h⟩ := oE_some h
      split at h
      · simp at h
      rename_i hcond
      split at h
      · simp at h
      · rename_i hg
        simp only [Option.some.injEq, Prod.mk.injEq] at h
        obtain ⟨rfl, rfl, rfl⟩ := h
        refine ⟨.nw d v.cells, rfl, ⟨by simp, ?_, fun _ => ⟨_, rfl⟩, ?_, by simp [isA], by simp [keepsE, isRg]⟩, ?_⟩
        · rintro t cs e; cases e; exact ⟨rfl, rfl, rfl, hg⟩
        · rintro t off e; cases e; exact .inr ⟨_, rfl⟩
        · intro E2 hag _ hg2
          simp only [stepX, stepO, stepOp, ag_op hag (x := x) (by simp [opO]), hv, oE, hcond, hg2 rfl, Env.row]
/-- What only tells looks at no state. -/
theorem stepX_free {E : Env} {S1 S2 : St} {r : Rs} {E' : Env} {S' : St} (hc : isC op = false) (ha : isA op = false) (hl : isL op = false) (h : stepX rc E S1 d op = some (r, E', S')) : stepX rc E S2 d op = some (r, E', S2) := by
  have hn : ∀ f as, op ≠ .call f as := by rintro f as rfl; simp [isC] at hc
  have hk : keepsE op = true := by
    cases op <;> first | rfl | (simp [isC] at hc; done) | skip
    case new m z => cases m <;> first | rfl | (simp [isA] at ha)
    case box m n x => cases m <;> first | rfl | (simp [isA] at ha)
  rw [stepX_O hn, stepO_V hk, stepV_R hc ha] at h ⊢
  rw [stepR_S hc ha hl (S1 := S2) (S2 := S1)]
  cases hq : stepR E S1 d op with
  | none => simp [hq] at h
  | some r0 =>
    simp [hq] at h
    simp [h]
end
end Go.Ab
