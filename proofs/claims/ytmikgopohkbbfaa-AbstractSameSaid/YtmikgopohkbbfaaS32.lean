/- One operation with its guard: its outcome; a run in the order of one's own. -/
import Derived.Test.YtmikgopohkbbfaaS31
namespace Go.Ab
open Go.RowKit (Below)
section
variable {rc : Rec}
def step1 (rc : Rec) (o : AOper) (E : Env) (S : St) : Option (Env × St) := stepG none (callE rc) o E S fun E' S' => some (E', S')
def putO (o : AOper) (E : Env) (r : Rs) : Option Env := putK none E o.dst o.kd r some
theorem castK_bind {γ : Type} {kd : Kd} {v : AV} {k : AV → Option γ} {α : Type} {g : AV → Option α} {h : α → Option γ} (e : ∀ v, k v = (g v).bind h) : castK none kd v k = (castK none kd v g).bind h := by
  cases kd <;> simp only [castK] <;> first | exact oE_congr (fun _ => e _) | exact e _
theorem putK_bind {γ : Type} {o : AOper} {E : Env} {r : Rs} {k : Env → Option γ} : putK none E o.dst o.kd r k = (putO o E r).bind k := by
  unfold putO
  cases o.dst with
  | none => rfl
  | some d => cases r <;> first | rfl | exact castK_bind (k := fun v => k (E.setV d v)) (g := fun v => some (E.setV d v)) (fun _ => rfl)
theorem stepG_X {γ : Type} {o : AOper} {E : Env} {S : St} {k : Env → St → Option γ} : stepG none (callE rc) o E S k = oE none (wants E o.guard) fun t => match t with
    | false => k (drop E o.dst) S
    | true => (stepX rc E S (o.dst.getD 0) o.op).bind fun q => (putO o q.2.1 q.1).bind fun E' => k E' q.2.2 := by
  unfold stepG
  refine oE_eq (fun t _ => ?_)
  cases t with
  | false => rfl
  | true =>
    simp only
    split
    · rename_i f args hop
      rw [hop]
      simp only [stepX, stepCall]
      cases hf : E.op f with
      | none => rfl
      | some v =>
        cases v <;> simp only [oE, Option.bind_none]
        rename_i g first cap
        cases has : E.ops args with
        | none => rfl
        | some as =>
          simp only [callE]
          cases hrc : rc g (first ++ as ++ cap) S with
          | none => rfl
          | some q => simp only [Option.bind_some]; exact putK_bind
    · rename_i hn
      rw [stepX_O (fun f as h => hn f as h), stepOp_bind]
      congr 1
      funext q
      exact putK_bind
theorem stepG_bind {γ : Type} {o : AOper} {E : Env} {S : St} {k : Env → St → Option γ} : stepG none (callE rc) o E S k = (step1 rc o E S).bind fun q => k q.1 q.2 := by
  unfold step1
  rw [stepG_X, stepG_X]
  cases hw : wants E o.guard with
  | none => rfl
  | some t =>
    cases t with
    | false => rfl
    | true =>
      simp only [oE]
      cases hx : stepX rc E S (o.dst.getD 0) o.op with
      | none => rfl
      | some q =>
        simp only [Option.bind_some]
        cases hp : putO o q.2.1 q.1 with
        | none => rfl
        | some E' => rfl
/-- What comes of an operation. -/
def Out (rc : Rec) (o : AOper) (E : Env) (S : St) (r : Rs) (u : Ru) (S' : St) : Prop :=
  (wants E o.guard = some false ∧ r = .no ∧ u = .id ∧ S' = S) ∨ (wants E o.guard = some true ∧ stepX rc E S (o.dst.getD 0) o.op = some (r, E.row u, S') ∧ RuOk E (o.dst.getD 0) o.op u r S S')
variable {o : AOper} {E E1 E2 E' : Env} {S S' : St} {r : Rs} {u : Ru}
theorem drop_put (E : Env) : putO o E .no = some (drop E o.dst) := by
  unfold putO
  cases o.dst <;> rfl
theorem ag_wants (h : Agree E1 E2 o.uses) : wants E2 o.guard = wants E1 o.guard := by
  cases hg : o.guard with
  | none => rfl
  | some p =>
    obtain ⟨g, w⟩ := p
    simp only [wants]
    rw [(h g (by simp [AOper.uses, hg])).1]
/-- The outcome is the same over every frame that agrees. -/
def Moves (rc : Rec) (o : AOper) (E1 : Env) (S : St) (r : Rs) (u : Ru) (S' : St) : Prop :=
  ∀ E2, Agree E1 E2 o.uses → (isW o.op = true → RowsAgree E1 E2 o.uses) → (isRg o.op = true → E2.g.any (fun p => p.2 == o.dst.getD 0) = false) → Out rc o E2 S r u S'
theorem RuOk.move {d : Nat} {op : Op} (h : RuOk E1 d op u r S S') (hag : Agree E1 E2 (usesO (opO op))) (hg : isRg op = true → E2.g.any (fun p => p.2 == d) = false) : RuOk E2 d op u r S S' where
  st t cs e := let ⟨n, hn, off, hp⟩ := h.st t cs e; ⟨n, hn, off, (hag n hn).2.trans hp⟩
  nw t cs e := let ⟨h1, h2, h3, _⟩ := h.nw t cs e; ⟨h1, h2, h3, hg h2⟩
  rg := h.rg
  adr t off e := by
    rcases h.adr t off e with ⟨hu, n, hn, off', hp⟩ | h
    · exact .inl ⟨hu, n, hn, off', (hag n hn).2.trans hp⟩
    · exact .inr h
  pure := h.pure
  keep := h.keep
theorem out_of_step1 (h : step1 rc o E S = some (E', S')) : ∃ r u, Out rc o E S r u S' ∧ Moves rc o E S r u S' ∧ putO o (E.row u) r = some E' := by
  unfold step1 at h
  rw [stepG_X] at h
  obtain ⟨t, ht, h⟩ := oE_some h
  cases t with
  | false =>
    simp only [Option.some.injEq, Prod.mk.injEq] at h
    obtain ⟨rfl, rfl⟩ := h
    exact ⟨.no, .id, .inl ⟨ht, rfl, rfl, rfl⟩, fun E2 hag _ _ => .inl ⟨(ag_wants hag).trans ht, rfl, rfl, rfl⟩, drop_put E⟩
  | true =>
    simp only at h
    obtain ⟨⟨r, E1, S1⟩, hx, h⟩ := Option.bind_eq_some_iff.1 h
    obtain ⟨E2, hp, h⟩ := Option.bind_eq_some_iff.1 h
    simp only [Option.some.injEq, Prod.mk.injEq] at h hp
    obtain ⟨rfl, rfl⟩ := h
    obtain ⟨u, rfl, hu, hmv⟩ := stepX_loc hx
    refine ⟨r, u, .inr ⟨ht, hx, hu⟩, fun E3 hag hra hg => .inr ⟨(ag_wants hag).trans ht, ?_, hu.move (fun n hn => hag n (by simp [AOper.uses, hn])) hg⟩, hp⟩
    exact hmv E3 (fun n hn => hag n (by simp [AOper.uses, hn])) (fun hl n hn => hra hl n (by simp [AOper.uses, hn])) hg
theorem step1_of_out (h : Out rc o E S r u S') (hp : putO o (E.row u) r = some E') : step1 rc o E S = some (E', S') := by
  unfold step1
  rw [stepG_X]
  rcases h with ⟨hw, rfl, rfl, rfl⟩ | ⟨hw, hx, _⟩
  · rw [hw]
    simp only [oE]
    rw [show E.row .id = E from rfl, drop_put] at hp
    simp only [Option.some.injEq] at hp
    rw [hp]
  · rw [hw]
    simp only [oE, hx, Option.bind_some, hp]
/-! ### What is put -/
def rsT : Rs → Option AV | .val v => some v | _ => none
def rsP : Rs → Option (Nat × Nat) | .adr t off => some (t, off) | _ => none
theorem put_spec (h : putO o E r = some E') : E'.r = E.r ∧ (∀ n, o.dst ≠ some n → E'.t.get n = E.t.get n ∧ E'.p.get n = E.p.get n) ∧ (∀ d, o.dst = some d → E'.t.get d = rsT r ∧ E'.p.get d = rsP r) := by
  unfold putO at h
  cases hd : o.dst with
  | none =>
    simp only [hd, putK, Option.some.injEq] at h
    subst h
    exact ⟨rfl, fun n _ => ⟨rfl, rfl⟩, fun d e => by simp at e⟩
  | some d =>
    simp only [hd, putK] at h
    cases r with
    | val v =>
      have h := castK_some h
      simp only [Option.some.injEq] at h
      subst h
      refine ⟨rfl, fun n hn => ?_, fun d' e => ?_⟩
      · have hn : n ≠ d := fun e => hn (by rw [e])
        simp [Env.setV, Mp.get_set, unp_get, hn]
      · cases e
        simp [Env.setV, Mp.get_set, unp_get, rsT, rsP]
    | adr t off =>
      simp only [Option.some.injEq] at h
      subst h
      refine ⟨rfl, fun n hn => ?_, fun d' e => ?_⟩
      · have hn : n ≠ d := fun e => hn (by rw [e])
        simp [Env.setA, Mp.get_set, hn]
      · cases e
        simp [Env.setA, Mp.get_set, rsT, rsP]
    | no =>
      simp only [Option.some.injEq] at h
      subst h
      refine ⟨rfl, fun n hn => ?_, fun d' e => ?_⟩
      · have hn : n ≠ d := fun e => hn (by rw [e])
        simp [Env.clr, Mp.get_set, unp_get, hn]
      · cases e
        simp [Env.clr, Mp.get_set, unp_get, rsT, rsP]
theorem put_g (h : putO o E r = some E') : (∀ p ∈ E.g, p ∈ E'.g) ∧ (∀ d t off, o.dst = some d → r = .adr t off → d = t ∨ (d, t) ∈ E'.g) := by
  unfold putO at h
  cases hd : o.dst with
  | none =>
    simp only [hd, putK, Option.some.injEq] at h
    subst h
    exact ⟨fun p hp => hp, fun d t off e => by simp at e⟩
  | some d =>
    simp only [hd, putK] at h
    cases r with
    | val v =>
      have h := castK_some h
      simp only [Option.some.injEq] at h
      subst h
      exact ⟨fun p hp => hp, fun d t off _ e => by simp at e⟩
    | adr t off =>
      simp only [Option.some.injEq] at h
      subst h
      refine ⟨fun p hp => ?_, fun d' t' off' e1 e2 => ?_⟩
      · simp only [Env.setA]
        split
        · exact hp
        · exact List.mem_cons_of_mem _ hp
      · cases e1; cases e2
        by_cases e : t = d
        · exact .inl e.symm
        · right; simp [Env.setA, e]
    | no =>
      simp only [Option.some.injEq] at h
      subst h
      exact ⟨fun p hp => hp, fun d t off _ e => by simp at e⟩
theorem castK_any {β : Type} {kd : Kd} {v : AV} {k k' : AV → Option β} {y : β} (h : castK none kd v k = some y) : castK none kd v k' = k' v := by
  cases kd with
  | i kk =>
    simp only [castK] at h ⊢
    obtain ⟨n, hn, h⟩ := oE_some h
    cases v <;> simp [asI] at hn
    obtain ⟨rfl, rfl⟩ := hn
    simp [asI, oE]
  | b =>
    simp only [castK] at h ⊢
    obtain ⟨n, hn, h⟩ := oE_some h
    cases v <;> simp [asB] at hn
    subst hn; rfl
  | s =>
    simp only [castK] at h ⊢
    obtain ⟨n, hn, h⟩ := oE_some h
    cases v <;> simp [asS] at hn
    subst hn; rfl
  | any => rfl
theorem put_move (h : putO o E1 r = some E') (E2 : Env) : ∃ E2', putO o E2 r = some E2' := by
  unfold putO at h ⊢
  cases hd : o.dst with
  | none => exact ⟨E2, rfl⟩
  | some d =>
    simp only [hd, putK] at h ⊢
    cases r with
    | val v => simp only at h ⊢; rw [castK_any (k' := fun v => some (E2.setV d v)) h]; exact ⟨_, rfl⟩
    | adr t off => exact ⟨_, rfl⟩
    | no => exact ⟨_, rfl⟩
/-! ### Rows -/
def Ru.get (u : Ru) (E : Env) (t : Nat) : Option (List AV) := match u with
  | .id => E.r.get t
  | .st t' cs => if t = t' then some cs else E.r.get t
  | .nw t' cs => if t = t' then some cs else E.r.get t
theorem row_r (E : Env) (u : Ru) (t : Nat) : (E.row u).r.get t = u.get E t := by
  cases u <;> simp [Env.row, Ru.get, Mp.get_set]
theorem row_t (E : Env) (u : Ru) : (E.row u).t = E.t := by cases u <;> rfl
theorem row_g (E : Env) (u : Ru) : (E.row u).g = E.g := by cases u <;> rfl
theorem row_p (E : Env) (u : Ru) (n : Nat) (h : ∀ t cs, u = .nw t cs → n ≠ t) : (E.row u).p.get n = E.p.get n := by
  cases u with
  | nw t cs => simp only [Env.row, unp_get]; rw [if_neg (h t cs rfl)]
  | _ => rfl
/-- The frame behind an operation. -/
theorem out_env (h : Out rc o E S r u S') (hp : putO o (E.row u) r = some E') (hd : isRg o.op = true → o.dst.isSome = true) :
    (∀ n, o.dst ≠ some n → E'.t.get n = E.t.get n ∧ E'.p.get n = E.p.get n) ∧ (∀ d, o.dst = some d → E'.t.get d = rsT r ∧ E'.p.get d = rsP r) ∧ (∀ t, E'.r.get t = u.get E t) ∧ (∀ t cs, u = .nw t cs → o.dst = some t) := by
  obtain ⟨h1, h2, h3⟩ := put_spec hp
  have hnw : ∀ t cs, u = .nw t cs → o.dst = some t := by
    rintro t cs rfl
    rcases h with ⟨_, _, h, _⟩ | ⟨_, _, h⟩
    · simp at h
    · obtain ⟨k1, k2, _⟩ := h.nw t cs rfl
      have := hd k2
      cases hq : o.dst with
      | none => rw [hq] at this; simp at this
      | some d => rw [hq] at k1; simp at k1; rw [k1]
  refine ⟨fun n hn => ?_, h3, fun t => by rw [h1, row_r], hnw⟩
  obtain ⟨k1, k2⟩ := h2 n hn
  rw [row_t] at k1
  refine ⟨k1, k2.trans (row_p E u n (fun t cs e => ?_))⟩
  rintro rfl
  exact hn (hnw _ _ e)
/-! ### A run in the order of one's own -/
theorem runDr_trace {β : Type} {k : Env → St → Option β} {y : β} : ∀ (l : List (AOper × List AOper)) (E : Env) (S : St), runDr none (callE rc) l E S k = some y →
    ∃ (cE : Nat → Env) (cS : Nat → St), cE 0 = E ∧ cS 0 = S ∧ (∀ j x, l[j]? = some x → step1 rc x.1 (cE j) (cS j) = some (cE (j + 1), cS (j + 1)) ∧ x.2.all (again (cE (j + 1)) (cS (j + 1))) = true) ∧ k (cE l.length) (cS l.length) = some y
  | [], E, S, h => ⟨fun _ => E, fun _ => S, rfl, rfl, by simp, h⟩
  | (o, chk) :: l, E, S, h => by
    simp only [runDr] at h
    rw [stepG_bind] at h
    obtain ⟨⟨E1, S1⟩, h1, h⟩ := Option.bind_eq_some_iff.1 h
    simp only at h
    split at h
    · rename_i hch
      obtain ⟨cE, cS, k1, k2, k3, k4⟩ := runDr_trace l E1 S1 h
      refine ⟨fun j => match j with | 0 => E | j + 1 => cE j, fun j => match j with | 0 => S | j + 1 => cS j, rfl, rfl, ?_, k4⟩
      intro j x hx
      cases j with
      | zero =>
        simp only [List.getElem?_cons_zero, Option.some.injEq] at hx
        subst hx
        simp only [k1, k2]
        exact ⟨h1, hch⟩
      | succ j =>
        simp only [List.getElem?_cons_succ] at hx
        exact k3 j x hx
    · simp at h
/-! ### What is read again -/
theorem oE_bool {α γ : Type} {x : Option α} {f : α → Bool} {g : α → Option γ} {h : γ → Bool} (e : ∀ v, f v = (g v).elim false h) : oE false x f = (oE none x g).elim false h := by
  cases x with
  | none => rfl
  | some v => exact e v
theorem stepOp_bool (E : Env) (S : St) (d : Nat) (op : Op) (K : Rs → Env → St → Bool) : stepOp false E S d op K = (stepO E S d op).elim false fun q => K q.1 q.2.1 q.2.2 := by
  cases op <;> simp only [stepO, stepOp] <;> (repeat' first | rfl | (refine oE_bool (fun _ => ?_)) | split)
theorem castK_bool {kd : Kd} {v : AV} {k : AV → Bool} (h : castK false kd v k = true) : k v = true := by
  cases kd with
  | i kk =>
    simp only [castK] at h
    cases v <;> simp only [asI, oE, Bool.false_eq_true] at h
    rename_i k' n
    by_cases e : k' = kk
    · subst e; simpa using h
    · simp [e] at h
  | b => cases v <;> simp [castK, asB, oE] at h; exact h
  | s => cases v <;> simp [castK, asS, oE] at h; exact h
  | any => exact h
theorem again_out (h : again E S o = true) (hc : isC o.op = false) (ha : isA o.op = false) : wants E o.guard = some false ∨ ∃ v d, o.dst = some d ∧ E.t.get d = some v ∧ Out rc o E S (.val v) .id S := by
  unfold again at h
  have hn : ∀ f as, o.op ≠ .call f as := by intro f as e; rw [e] at hc; simp [isC] at hc
  split at h
  · rename_i hw
    rw [stepOp_bool] at h
    cases hq : stepO E S (o.dst.getD 0) o.op with
    | none => rw [hq] at h; simp at h
    | some q =>
      obtain ⟨r, E1, S1⟩ := q
      rw [hq] at h
      simp only [Option.elim_some] at h
      split at h
      · rename_i v d hd
        have h := castK_bool h
        split at h
        · rename_i w hw2
          have := AV.beq_eq _ _ h
          subst this
          right
          have hx : stepX rc E S (o.dst.getD 0) o.op = some (.val v, E1, S1) := by rw [stepX_O hn]; exact hq
          obtain ⟨u, he, hu, _⟩ := stepX_loc hx
          obtain ⟨rfl, rfl⟩ := hu.pure hc ha
          subst he
          exact ⟨v, d, hd, hw2, .inr ⟨hw, hx, hu⟩⟩
        · simp at h
      · simp at h
  · rename_i hw
    exact .inl hw
  · simp at h
theorem Out.moves (h : Out rc o E S r u S') (hk : keepsE o.op = true) (hu : u = .id) : Moves rc o E S r u S' := by
  subst hu
  intro E2 hag hra hg
  have hag' : Agree E E2 (usesO (opO o.op)) := fun n hn => hag n (by simp [AOper.uses, hn])
  rcases h with ⟨hw, h1, h2, h3⟩ | ⟨hw, hx, hu⟩
  · exact .inl ⟨(ag_wants hag).trans hw, h1, h2, h3⟩
  · refine .inr ⟨(ag_wants hag).trans hw, ?_, hu.move hag' hg⟩
    have hn : ∀ f as, o.op ≠ .call f as := by intro f as e; rw [e] at hk; simp [keepsE] at hk
    rw [stepX_O hn, stepO_V hk] at hx ⊢
    rw [congV hk hag' (fun hl n hn => hra (by cases hop : o.op <;> simp_all [isL, isW]) n (by simp [AOper.uses, hn]))]
    cases hv : stepV E S (o.dst.getD 0) o.op with
    | none => rw [hv] at hx; simp at hx
    | some q =>
      rw [hv] at hx
      simp only [Option.bind_some, Option.some.injEq, Prod.mk.injEq] at hx ⊢
      exact ⟨hx.1, rfl, hx.2.2⟩
end
end Go.Ab
