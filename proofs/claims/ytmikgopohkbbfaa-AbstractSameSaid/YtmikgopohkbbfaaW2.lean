/- The condition, as the kernel computes it: guards are known where they were asked, what is read is named. -/
import Derived.Test.YtmikgopohkbbfaaS32
import Derived.KernelRfl
namespace Go.Ab
def RunC (K : Cfg) (c : C) (E : Env) (S : St) (e : Ex) (E' : Env) (S' : St) : Prop := ∃ N, ∀ n, N ≤ n → ∀ m, N ≤ m → evC (evF K n) m c E S = some (e, E', S')
def RunF (K : Cfg) (f : FuncId) (args : List AV) (S : St) (r : AV) (S' : St) : Prop := ∃ N, ∀ n, N ≤ n → evF K n f args S = some (r, S')
def TC (K : Cfg) (c : C) (E : Env) (S : St) (Q : Ex → Env → St → Prop) : Prop := ∃ e E' S', RunC K c E S e E' S' ∧ Q e E' S'
def TF (K : Cfg) (f : FuncId) (args : List AV) (S : St) (Q : AV → St → Prop) : Prop := ∃ r S', RunF K f args S r S' ∧ Q r S'
theorem TC.mono {K : Cfg} {c : C} {E : Env} {S : St} {Q Q' : Ex → Env → St → Prop} (h : TC K c E S Q) (hq : ∀ e E' S', Q e E' S' → Q' e E' S') : TC K c E S Q' :=
  let ⟨e, E', S', hr, h⟩ := h; ⟨e, E', S', hr, hq _ _ _ h⟩
theorem TF.mono {K : Cfg} {f : FuncId} {args : List AV} {S : St} {Q Q' : AV → St → Prop} (h : TF K f args S Q) (hq : ∀ r S', Q r S' → Q' r S') : TF K f args S Q' :=
  let ⟨r, S', hr, h⟩ := h; ⟨r, S', hr, hq _ _ h⟩
/-! ### Conditions for what may fail -/
theorem oE_P {α γ : Type} {x : Option α} {f : α → Prop} {g : α → Option γ} {h : γ → Prop} (e : ∀ v, f v = (g v).elim False h) : oE False x f = (oE none x g).elim False h := by
  cases x with
  | none => rfl
  | some v => exact e v
theorem stepOp_P (E : Env) (S : St) (d : Nat) (op : Op) (K : Rs → Env → St → Prop) : stepOp False E S d op K = (stepO E S d op).elim False fun q => K q.1 q.2.1 q.2.2 := by
  cases op <;> simp only [stepO, stepOp] <;> (repeat' first | rfl | (refine oE_P (fun _ => ?_)) | split)
theorem castK_P {γ : Type} {kd : Kd} {v : AV} {k : AV → Prop} {g : AV → Option γ} {h : γ → Prop} (e : ∀ v, k v = (g v).elim False h) : castK False kd v k = (castK none kd v g).elim False h := by
  cases kd <;> simp only [castK] <;> first | exact oE_P (fun _ => e _) | exact e _
theorem putK_P {o : AOper} {E : Env} {r : Rs} {k : Env → Prop} : putK False E o.dst o.kd r k = (putO o E r).elim False k := by
  unfold putO
  cases o.dst with
  | none => rfl
  | some d => cases r <;> first | rfl | exact castK_P (k := fun v => k (E.setV d v)) (g := fun v => some (E.setV d v)) (fun _ => rfl)
abbrev callW (K : Cfg) : CallK Prop := fun f vs S k => TF K f vs S k
/-- One operation, for all great enough counts. -/
def Run1 (K : Cfg) (o : AOper) (E : Env) (S : St) (E' : Env) (S' : St) : Prop := ∃ N, ∀ n, N ≤ n → step1 (evF K n) o E S = some (E', S')
theorem elim_some {α : Type} {x : Option α} {k : α → Prop} (h : x.elim False k) : ∃ v, x = some v ∧ k v := by
  cases x with
  | none => exact h.elim
  | some v => exact ⟨v, rfl, h⟩
theorem stepG_run {K : Cfg} {o : AOper} {E : Env} {S : St} {k : Env → St → Prop} (h : stepG False (callW K) o E S k) : ∃ E' S', Run1 K o E S E' S' ∧ k E' S' := by
  unfold stepG at h
  cases hw : wants E o.guard with
  | none => rw [hw] at h; exact h.elim
  | some t =>
    rw [hw] at h
    simp only [oE] at h
    cases t with
    | false => exact ⟨_, _, ⟨0, fun n _ => by unfold step1; rw [stepG_X, hw]; rfl⟩, h⟩
    | true =>
      simp only at h
      split at h
      · rename_i f args hop
        simp only [stepCall] at h
        cases hf : E.op f with
        | none => rw [hf] at h; exact h.elim
        | some v =>
          rw [hf] at h
          cases v <;> simp only [oE] at h
          rename_i g first cap
          cases has : E.ops args with
          | none => rw [has] at h; exact h.elim
          | some as =>
            rw [has] at h
            obtain ⟨v, S', ⟨N, hN⟩, h⟩ := h
            rw [putK_P] at h
            obtain ⟨E', hp, h⟩ := elim_some h
            refine ⟨E', S', ⟨N, fun n hn => ?_⟩, h⟩
            unfold step1
            rw [stepG_X, hw]
            simp only [oE, hop, stepX, stepCall, hf, has, callE, hN n hn, Option.bind_some, hp]
      · rename_i hn
        rw [stepOp_P] at h
        obtain ⟨⟨r, E1, S1⟩, hq, h⟩ := elim_some h
        rw [putK_P] at h
        obtain ⟨E', hp, h⟩ := elim_some h
        refine ⟨E', S1, ⟨0, fun n _ => ?_⟩, h⟩
        unfold step1
        rw [stepG_X, hw]
        simp only [oE, stepX_O (fun f as h => hn f as h), hq, Option.bind_some, hp]
theorem runOps_run {K : Cfg} : ∀ (ops : List AOper) {k : Env → St → Prop} {E : Env} {S : St}, runOps False (callW K) ops E S k → ∃ E' S', (∃ N, ∀ n, N ≤ n → runOps none (callE (evF K n)) ops E S (fun E S => some (E, S)) = some (E', S')) ∧ k E' S'
  | [], k, E, S, h => ⟨E, S, ⟨0, fun _ _ => rfl⟩, h⟩
  | o :: r, k, E, S, h => by
    simp only [runOps] at h
    obtain ⟨E1, S1, ⟨N1, h1⟩, h⟩ := stepG_run h
    obtain ⟨E2, S2, ⟨N2, h2⟩, h⟩ := runOps_run r h
    refine ⟨E2, S2, ⟨max N1 N2, fun n hn => ?_⟩, h⟩
    simp only [runOps]
    rw [stepG_bind, h1 n (by omega)]
    exact h2 n (by omega)
theorem runDr_run {K : Cfg} : ∀ (ops : List (AOper × List AOper)) {k : Env → St → Prop} {E : Env} {S : St}, runDr False (callW K) ops E S k → ∃ E' S', (∃ N, ∀ n, N ≤ n → runDr none (callE (evF K n)) ops E S (fun E S => some (E, S)) = some (E', S')) ∧ k E' S'
  | [], k, E, S, h => ⟨E, S, ⟨0, fun _ _ => rfl⟩, h⟩
  | (o, l) :: r, k, E, S, h => by
    simp only [runDr] at h
    obtain ⟨E1, S1, ⟨N1, h1⟩, h⟩ := stepG_run h
    split at h
    · rename_i hch
      obtain ⟨E2, S2, ⟨N2, h2⟩, h⟩ := runDr_run r h
      refine ⟨E2, S2, ⟨max N1 N2, fun n hn => ?_⟩, h⟩
      simp only [runDr]
      rw [stepG_bind, h1 n (by omega)]
      simp only [Option.bind_some, hch]
      exact h2 n (by omega)
    · exact h.elim
theorem runOps_bind {γ : Type} {rc : Rec} : ∀ (ops : List AOper) {E : Env} {S : St} {k : Env → St → Option γ}, runOps none (callE rc) ops E S k = (runOps none (callE rc) ops E S (fun E S => some (E, S))).bind fun q => k q.1 q.2
  | [], E, S, k => rfl
  | o :: r, E, S, k => by
    simp only [runOps]
    rw [stepG_bind, stepG_bind (k := fun E' S' => runOps none (callE rc) r E' S' fun E S => some (E, S))]
    cases step1 rc o E S with
    | none => rfl
    | some q => simp only [Option.bind_some]; exact runOps_bind r
theorem runDr_bind {γ : Type} {rc : Rec} : ∀ (ops : List (AOper × List AOper)) {E : Env} {S : St} {k : Env → St → Option γ}, runDr none (callE rc) ops E S k = (runDr none (callE rc) ops E S (fun E S => some (E, S))).bind fun q => k q.1 q.2
  | [], E, S, k => rfl
  | (o, l) :: r, E, S, k => by
    simp only [runDr]
    rw [stepG_bind]
    conv => rhs; rw [stepG_bind]
    cases step1 rc o E S with
    | none => rfl
    | some q =>
      simp only [Option.bind_some]
      split
      · exact runDr_bind r
      · rfl
/-! ### Code -/
def wC (K : Cfg) : C → (Ex → Env → St → Prop) → Env → St → Prop
  | .skip, k, E, S => k .nor E S
  | .seq a b, k, E, S => wC K a (fun e E S => match e with
    | .nor => wC K b k E S
    | e => k e E S) E S
  | .rgn ops live, k, E, S => runOps False (callW K) ops E S (fun E S => k .nor (E.keep live) S)
  | .drg ops live, k, E, S => runDr False (callW K) ops E S (fun E S => k .nor (E.keep live) S)
  | .cond c a b, k, E, S => match E.op c with
    | some (.b t) => match t with
      | true => wC K a k E S
      | false => wC K b k E S
    | _ => False
  | .blk id c, k, E, S => wC K c (fun e E S => k (match e with | .exit j => if j = id then .nor else .exit j | e => e) E S) E S
  | .loop live c, k, E, S => TC K (.loop live c) E S k
  | .scp c l r, k, E, S => wC K c (fun e E S => match e with
    | .goto j => j = l ∧ wC K r (fun e E S => match e with | .goto _ => False | e => k e E S) E S
    | e => k e E S) E S
  | .goto l, k, E, S => k (.goto l) E S
  | .exit id, k, E, S => k (.exit id) E S
  | .ret, k, E, S => k .ret E S
theorem pos_of {N m : Nat} (h : N + 1 ≤ m) : ∃ j, m = j + 1 ∧ N ≤ j := ⟨m - 1, by omega, by omega⟩
theorem wC_run {K : Cfg} : ∀ (c : C) {k : Ex → Env → St → Prop} {E : Env} {S : St}, wC K c k E S → TC K c E S k
  | .skip, k, E, S, h => ⟨.nor, E, S, ⟨1, fun n _ m hm => by obtain ⟨m, rfl, _⟩ := pos_of hm; rfl⟩, h⟩
  | .exit id, k, E, S, h => ⟨.exit id, E, S, ⟨1, fun n _ m hm => by obtain ⟨m, rfl, _⟩ := pos_of hm; rfl⟩, h⟩
  | .goto id, k, E, S, h => ⟨.goto id, E, S, ⟨1, fun n _ m hm => by obtain ⟨m, rfl, _⟩ := pos_of hm; rfl⟩, h⟩
  | .ret, k, E, S, h => ⟨.ret, E, S, ⟨1, fun n _ m hm => by obtain ⟨m, rfl, _⟩ := pos_of hm; rfl⟩, h⟩
  | .loop live c, k, E, S, h => h
  | .rgn ops live, k, E, S, h => by
    obtain ⟨E', S', ⟨N, hN⟩, hk⟩ := runOps_run ops (k := fun E S => k .nor (E.keep live) S) h
    refine ⟨.nor, E'.keep live, S', ⟨N + 1, fun n hn m hm => ?_⟩, hk⟩
    obtain ⟨m, rfl, _⟩ := pos_of hm
    simp only [evC]; rw [runOps_bind, hN n (by omega)]; rfl
  | .drg ops live, k, E, S, h => by
    obtain ⟨E', S', ⟨N, hN⟩, hk⟩ := runDr_run ops (k := fun E S => k .nor (E.keep live) S) h
    refine ⟨.nor, E'.keep live, S', ⟨N + 1, fun n hn m hm => ?_⟩, hk⟩
    obtain ⟨m, rfl, _⟩ := pos_of hm
    simp only [evC]; rw [runDr_bind, hN n (by omega)]; rfl
  | .cond x a b, k, E, S, h => by
    unfold wC at h
    split at h
    · rename_i t hx
      cases t with
      | true =>
        obtain ⟨e, E', S', ⟨N, hN⟩, hk⟩ := wC_run a h
        refine ⟨e, E', S', ⟨N + 1, fun n hn m hm => ?_⟩, hk⟩
        obtain ⟨m, rfl, _⟩ := pos_of hm
        simp only [evC, hx, if_true]; exact hN n (by omega) m (by omega)
      | false =>
        obtain ⟨e, E', S', ⟨N, hN⟩, hk⟩ := wC_run b h
        refine ⟨e, E', S', ⟨N + 1, fun n hn m hm => ?_⟩, hk⟩
        obtain ⟨m, rfl, _⟩ := pos_of hm
        simp only [evC, hx, Bool.false_eq_true, if_false]; exact hN n (by omega) m (by omega)
    · exact h.elim
  | .blk id c, k, E, S, h => by
    obtain ⟨e, E', S', ⟨N, hN⟩, hk⟩ := wC_run c (k := fun e E S => k (match e with | .exit j => if j = id then .nor else .exit j | e => e) E S) h
    refine ⟨_, E', S', ⟨N + 1, fun n hn m hm => ?_⟩, hk⟩
    obtain ⟨m, rfl, _⟩ := pos_of hm
    simp only [evC]; rw [hN n (by omega) m (by omega)]
    cases e <;> rfl
  | .scp c l r, k, E, S, h => by
    obtain ⟨e, E', S', ⟨N, hN⟩, hk⟩ := wC_run c (k := fun e E S => match e with
      | .goto j => j = l ∧ wC K r (fun e E S => match e with | .goto _ => False | e => k e E S) E S
      | e => k e E S) h
    cases e with
    | goto j =>
      obtain ⟨rfl, hk⟩ := hk
      obtain ⟨e2, E2, S2, ⟨N2, hN2⟩, hk⟩ := wC_run r hk
      refine ⟨e2, E2, S2, ⟨max N N2 + 1, fun n hn m hm => ?_⟩, ?_⟩
      · obtain ⟨m, rfl, _⟩ := pos_of hm
        simp only [evC]; rw [hN n (by omega) m (by omega)]
        simp only [if_true]
        rw [hN2 n (by omega) m (by omega)]
        cases e2 <;> first | rfl | exact hk.elim
      · cases e2 <;> first | exact hk | exact hk.elim
    | nor => exact ⟨_, E', S', ⟨N + 1, fun n hn m hm => by obtain ⟨m, rfl, _⟩ := pos_of hm; simp only [evC]; rw [hN n (by omega) m (by omega)]⟩, hk⟩
    | ret => exact ⟨_, E', S', ⟨N + 1, fun n hn m hm => by obtain ⟨m, rfl, _⟩ := pos_of hm; simp only [evC]; rw [hN n (by omega) m (by omega)]⟩, hk⟩
    | exit j => exact ⟨_, E', S', ⟨N + 1, fun n hn m hm => by obtain ⟨m, rfl, _⟩ := pos_of hm; simp only [evC]; rw [hN n (by omega) m (by omega)]⟩, hk⟩
  | .seq a b, k, E, S, h => by
    obtain ⟨e, E', S', ⟨N, hN⟩, hk⟩ := wC_run a (k := fun e E S => match e with
      | .nor => wC K b k E S
      | e => k e E S) h
    cases e with
    | nor =>
      obtain ⟨e2, E2, S2, ⟨N2, hN2⟩, hk⟩ := wC_run b hk
      refine ⟨e2, E2, S2, ⟨max N N2 + 1, fun n hn m hm => ?_⟩, hk⟩
      obtain ⟨m, rfl, _⟩ := pos_of hm
      simp only [evC]; rw [hN n (by omega) m (by omega)]; exact hN2 n (by omega) m (by omega)
    | _ =>
      refine ⟨_, E', S', ⟨N + 1, fun n hn m hm => ?_⟩, hk⟩
      obtain ⟨m, rfl, _⟩ := pos_of hm
      simp only [evC]; rw [hN n (by omega) m (by omega)]
/-- A round of a loop. -/
theorem TC_loop {K : Cfg} {live : List Nat} {c : C} {E : Env} {S : St} {k : Ex → Env → St → Prop}
    (h : TC K c (E.keep live) S fun e E' S' => match e with
      | .nor => TC K (.loop live c) E' S' k
      | e => k e E' S') : TC K (.loop live c) E S k := by
  obtain ⟨e, E', S', ⟨N, hN⟩, hk⟩ := h
  cases e with
  | nor =>
    obtain ⟨e2, E2, S2, ⟨N2, hN2⟩, hk⟩ := hk
    refine ⟨e2, E2, S2, ⟨max N N2 + 1, fun n hn m hm => ?_⟩, hk⟩
    obtain ⟨m, rfl, _⟩ := pos_of hm
    simp only [evC]; rw [hN n (by omega) m (by omega)]; exact hN2 n (by omega) m (by omega)
  | _ =>
    refine ⟨_, E', S', ⟨N + 1, fun n hn m hm => ?_⟩, hk⟩
    obtain ⟨m, rfl, _⟩ := pos_of hm
    simp only [evC]; rw [hN n (by omega) m (by omega)]
def outs (d : AFn) (Q : AV → St → Prop) : Ex → Env → St → Prop := fun e E S' => match e with
  | .exit _ => False
  | .goto _ => False
  | _ => match resV E S' d.res with
    | some vs => match d.raw with
      | true => Q (one vs) S'
      | false => match frz 1000 S' (one vs) with
        | some (v, S'') => Q v S''
        | none => False
    | none => False
theorem TF_of {K : Cfg} {f : FuncId} {d : AFn} (hd : K.fd f = some d) {args : List AV} {S : St} {Q : AV → St → Prop} (hl : args.length ≤ d.nt)
    (h : wC K d.code (outs d Q) (env0 args) S) : TF K f args S Q := by
  obtain ⟨e, E, S', ⟨N, hN⟩, hk⟩ := wC_run d.code h
  have hrun : ∀ n, N + 1 ≤ n → evF K n f args S = (match e with
      | .exit _ => none
      | .goto _ => none
      | _ => match resV E S' d.res with
        | some vs => if d.raw then some (one vs, S') else frz 1000 S' (one vs)
        | none => none) := by
    intro n hn
    obtain ⟨n, rfl, _⟩ := pos_of hn
    simp only [evF, hd]
    rw [if_pos hl, hN n (by omega) n (by omega)]
    cases e <;> rfl
  have key : ∀ {vs : List AV}, (match d.raw with
      | true => Q (one vs) S'
      | false => match frz 1000 S' (one vs) with
        | some (v, S'') => Q v S''
        | none => False) → (∀ n, N + 1 ≤ n → evF K n f args S = if d.raw then some (one vs, S') else frz 1000 S' (one vs)) → TF K f args S Q := by
    intro vs hq hr
    cases hraw : d.raw with
    | true =>
      rw [hraw] at hq
      exact ⟨_, S', ⟨N + 1, fun n hn => by rw [hr n hn, hraw]; rfl⟩, hq⟩
    | false =>
      rw [hraw] at hq
      simp only at hq
      split at hq
      · rename_i v S'' hz
        exact ⟨v, S'', ⟨N + 1, fun n hn => by rw [hr n hn, hraw]; exact hz⟩, hq⟩
      · exact hq.elim
  unfold outs at hk
  cases e with
  | exit j => exact hk.elim
  | goto j => exact hk.elim
  | nor =>
    simp only at hk hrun
    cases hr : resV E S' d.res with
    | none => rw [hr] at hk; exact hk.elim
    | some vs => rw [hr] at hk hrun; exact key hk hrun
  | ret =>
    simp only at hk hrun
    cases hr : resV E S' d.res with
    | none => rw [hr] at hk; exact hk.elim
    | some vs => rw [hr] at hk hrun; exact key hk hrun
/-! ### Frames that are the same, place by place -/
structure PEq (E1 E2 : Env) : Prop where
  t : ∀ n, E2.t.get n = E1.t.get n
  p : ∀ n, E2.p.get n = E1.p.get n
  r : ∀ n, E2.r.get n = E1.r.get n
  g : E2.g = E1.g
theorem PEq.refl (E : Env) : PEq E E := ⟨fun _ => rfl, fun _ => rfl, fun _ => rfl, rfl⟩
theorem PEq.agree {E1 E2 : Env} (h : PEq E1 E2) (us : List Nat) : Agree E1 E2 us := fun n _ => ⟨h.t n, h.p n⟩
theorem PEq.rows {E1 E2 : Env} (h : PEq E1 E2) (us : List Nat) : RowsAgree E1 E2 us := fun _ _ t _ _ => h.r t
theorem PEq.row {E1 E2 : Env} (h : PEq E1 E2) (u : Ru) : PEq (E1.row u) (E2.row u) := by
  cases u with
  | id => exact h
  | st t cs => exact ⟨h.t, h.p, fun n => by simp only [Env.row, Mp.get_set, h.r], h.g⟩
  | nw d cs => exact ⟨h.t, fun n => by simp only [Env.row, unp_get, h.p], fun n => by simp only [Env.row, Mp.get_set, h.r], h.g⟩
theorem PEq.put {o : AOper} {E1 E2 E1' : Env} {r : Rs} (h : PEq E1 E2) (hp : putO o E1 r = some E1') : ∃ E2', putO o E2 r = some E2' ∧ PEq E1' E2' := by
  obtain ⟨E2', h2⟩ := put_move hp E2
  refine ⟨E2', h2, ?_⟩
  obtain ⟨a1, a2, a3⟩ := put_spec hp
  obtain ⟨b1, b2, b3⟩ := put_spec h2
  have key : ∀ n, E2'.t.get n = E1'.t.get n ∧ E2'.p.get n = E1'.p.get n := fun n => by
    by_cases hd : o.dst = some n
    · exact ⟨(b3 n hd).1.trans (a3 n hd).1.symm, (b3 n hd).2.trans (a3 n hd).2.symm⟩
    · exact ⟨(b2 n hd).1.trans ((h.t n).trans (a2 n hd).1.symm), (b2 n hd).2.trans ((h.p n).trans (a2 n hd).2.symm)⟩
  refine ⟨fun n => (key n).1, fun n => (key n).2, fun n => by rw [a1, b1, h.r], ?_⟩
  unfold putO at hp h2
  cases hd : o.dst with
  | none =>
    simp only [hd, putK, Option.some.injEq] at hp h2
    subst hp h2; exact h.g
  | some d =>
    simp only [hd, putK] at hp h2
    cases r with
    | val v =>
      have hp := castK_some hp; have h2 := castK_some h2
      simp only [Option.some.injEq] at hp h2
      subst hp h2; exact h.g
    | adr t off =>
      simp only [Option.some.injEq] at hp h2
      subst hp h2
      simp only [Env.setA, h.g]
    | no =>
      simp only [Option.some.injEq] at hp h2
      subst hp h2; exact h.g
theorem PEq.keep {E1 E2 : Env} (h : PEq E1 E2) (live : List Nat) : E2.keep live = E1.keep live := by
  have ht : ∀ (l : List Nat) (m : Mp AV), keepT E2 l m = keepT E1 l m := by
    intro l
    induction l with
    | nil => intro m; rfl
    | cons x l ih => intro m; simp only [keepT, h.t]; split <;> exact ih _
  have hp : ∀ (l : List Nat) (m : Mp (Nat × Nat)), keepP E2 l m = keepP E1 l m := by
    intro l
    induction l with
    | nil => intro m; rfl
    | cons x l ih => intro m; simp only [keepP, h.p]; (repeat' split) <;> exact ih _
  have hr : ∀ (l : List Nat) (m : Mp (List AV)), keepR E2 l m = keepR E1 l m := by
    intro l
    induction l with
    | nil => intro m; rfl
    | cons x l ih => intro m; simp only [keepR, h.r]; split <;> exact ih _
  simp only [Env.keep, ht, hp, hr]
theorem PEq.wants {E1 E2 : Env} (h : PEq E1 E2) (g : Option (Nat × Bool)) : wants E2 g = wants E1 g := by
  cases g with
  | none => rfl
  | some q => simp only [Ab.wants, h.t]
theorem PEq.step {E1 E2 E1' : Env} {S S' : St} {d : Nat} {op : Op} {r : Rs} {rc : Rec} (h : PEq E1 E2) (hs : stepX rc E1 S d op = some (r, E1', S')) : ∃ E2', stepX rc E2 S d op = some (r, E2', S') ∧ PEq E1' E2' := by
  obtain ⟨u, rfl, hok, hmv⟩ := stepX_loc hs
  refine ⟨E2.row u, hmv E2 (h.agree _) (fun _ => h.rows _) (fun hrg => ?_), h.row u⟩
  obtain ⟨cs, hcs⟩ := hok.rg hrg
  rw [h.g]; exact (hok.nw _ _ hcs).2.2.2
theorem PEq.again {E1 E2 : Env} {S : St} {o : AOper} (h : PEq E1 E2) (ha : again E1 S o = true) : again E2 S o = true := by
  unfold Ab.again at ha ⊢
  rw [h.wants]
  split at ha
  · rename_i hw
    rw [stepOp_bool] at ha ⊢
    cases hq : stepO E1 S (o.dst.getD 0) o.op with
    | none => rw [hq] at ha; simp at ha
    | some q =>
      obtain ⟨r, E1', S1⟩ := q
      rw [hq] at ha
      simp only [Option.elim_some] at ha
      by_cases hc : ∃ f as, o.op = .call f as
      · obtain ⟨f, as, hc⟩ := hc
        rw [hc] at hq; simp [stepO, stepOp] at hq
      · have hn : ∀ f as, o.op ≠ .call f as := fun f as e => hc ⟨f, as, e⟩
        have hx : stepX (fun _ _ _ => none) E1 S (o.dst.getD 0) o.op = some (r, E1', S1) := by rw [stepX_O hn]; exact hq
        obtain ⟨E2', hx2, _⟩ := h.step hx
        rw [stepX_O hn] at hx2
        rw [hx2]
        simp only [Option.elim_some]
        simp only [h.t]
        exact ha
  · rfl
  · simp at ha
/-- What a guard was, once it was asked. -/
def know (E : Env) (g : Option (Nat × Bool)) (t : Bool) : Env := match g with
  | none => E
  | some (n, w) => { t := E.t.set n (some (.b (match w with | true => t | false => !t))), p := E.p, r := E.r, g := E.g }
theorem know_eq {E : Env} {g : Option (Nat × Bool)} {t : Bool} (h : wants E g = some t) : PEq (know E g t) E := by
  cases g with
  | none => exact PEq.refl E
  | some q =>
    obtain ⟨n, w⟩ := q
    refine ⟨fun m => ?_, fun _ => rfl, fun _ => rfl, rfl⟩
    simp only [know, Mp.get_set]
    split
    · rename_i e; subst e
      simp only [wants] at h
      split at h
      · rename_i x hx
        simp only [Option.some.injEq] at h
        rw [hx]
        cases w <;> simp at h ⊢ <;> rw [← h] <;> simp
      · simp at h
    · rfl
/-! ### Operations -/
/-- Some cells, one by one. -/
def exL : Nat → (List AV → Prop) → Prop
  | 0, k => k []
  | n + 1, k => ∃ c, exL n fun r => k (c :: r)
theorem exL_some : ∀ {n : Nat} {k : List AV → Prop}, exL n k → ∃ ds, k ds
  | 0, _, h => ⟨[], h⟩
  | _ + 1, _, h => let ⟨c, h⟩ := h; let ⟨ds, h⟩ := exL_some h; ⟨c :: ds, h⟩
/-- What a slice holds (no string). -/
def sliceC (S : St) (v : AV) : Option (List AV) := match v with | .s _ => none | v => cont S v
theorem cvs_eq {E : Env} {S : St} {d : Nat} {x : O} {k : Rs → Env → St → Prop} : stepOp False E S d (.cvs x) k = oE False ((E.op x).bind (sliceC S)) fun xs => oE False (bytesOf xs) fun b => k (.val (.s b)) E S := by
  simp only [stepOp]
  cases E.op x with
  | none => rfl
  | some v => cases v <;> rfl
def stepP (K : Cfg) (E : Env) (S : St) (o : AOper) (k : Env → St → Prop) : Prop := match o.op with
  | .call f args => stepCall False (callW K) E S f args fun v S' => putK False E o.dst o.kd (.val v) fun E' => k E' S'
  | .ia sz x j => match E.op x, E.op j with
    | some (.sl s xs t), some (.i kk n) => ∃ c, (s = sz ∧ 0 ≤ n ∧ xs[n.toNat]? = some c) ∧ putK False E o.dst o.kd (.val (.fz c.cells)) fun E' => k E' S
    | some (.ar a off len cap t), some (.i kk n) => (0 ≤ n ∧ n.toNat < len ∧ ∃ xs, S.arrs.get a = some (sz, xs)) ∧ putK False E o.dst o.kd (.val (.ap a (off + n.toNat) 0)) fun E' => k E' S
    | _, _ => stepOp False E S (o.dst.getD 0) (.ia sz x j) fun r E' S' => putK False E' o.dst o.kd r fun E'' => k E'' S'
  | .ld g n a => match E.ad a with
    | some (.v (.fz cs)) => match g with
      | true => exL n fun ds => (cut cs 0 n = some ds) ∧ putK False E o.dst o.kd (.val (.ag ds)) fun E' => k E' S
      | false => match o.kd with
        | .i kk => ∃ m, (n = 1 ∧ cs.head? = some (.i kk m)) ∧ putK False E o.dst o.kd (.val (.i kk m)) fun E' => k E' S
        | .b => ∃ m, (n = 1 ∧ cs.head? = some (.b m)) ∧ putK False E o.dst o.kd (.val (.b m)) fun E' => k E' S
        | .s => ∃ m, (n = 1 ∧ cs.head? = some (.s m)) ∧ putK False E o.dst o.kd (.val (.s m)) fun E' => k E' S
        | .any => ∃ m, (n = 1 ∧ cs.head? = some m) ∧ putK False E o.dst o.kd (.val m) fun E' => k E' S
    | _ => stepOp False E S (o.dst.getD 0) (.ld g n a) fun r E' S' => putK False E' o.dst o.kd r fun E'' => k E'' S'
  | .cvs x => oE False ((E.op x).bind (sliceC S)) fun xs => oE False (bytesOf xs) fun b => putK False E o.dst o.kd (.val (.s b)) fun E' => k E' S
  | op => stepOp False E S (o.dst.getD 0) op fun r E' S' => putK False E' o.dst o.kd r fun E'' => k E'' S'
theorem head_cut {cs : List AV} {m : AV} (h : cs.head? = some m) : cut cs 0 1 = some [m] := by
  cases cs with
  | nil => simp at h
  | cons x r => simp at h; subst h; simp [cut]
theorem stepP_run {K : Cfg} {E : Env} {S : St} {o : AOper} {k : Env → St → Prop} (h : stepP K E S o k) :
    ∃ r E1 S1 E', (∃ N, ∀ n, N ≤ n → stepX (evF K n) E S (o.dst.getD 0) o.op = some (r, E1, S1)) ∧ putO o E1 r = some E' ∧ k E' S1 := by
  have gen : ∀ (op : Op), o.op = op → (∀ f as, op ≠ .call f as) → (stepOp False E S (o.dst.getD 0) op fun r E' S' => putK False E' o.dst o.kd r fun E'' => k E'' S') →
      ∃ r E1 S1 E', (∃ N, ∀ n, N ≤ n → stepX (evF K n) E S (o.dst.getD 0) o.op = some (r, E1, S1)) ∧ putO o E1 r = some E' ∧ k E' S1 := by
    intro op hop hn h
    rw [stepOp_P] at h
    obtain ⟨⟨r, E1, S1⟩, hq, h⟩ := elim_some h
    rw [putK_P] at h
    obtain ⟨E', hp, h⟩ := elim_some h
    exact ⟨r, E1, S1, E', ⟨0, fun n _ => by rw [hop, stepX_O hn]; exact hq⟩, hp, h⟩
  have val : ∀ (op : Op) (v : AV), o.op = op → (∀ f as, op ≠ .call f as) → stepO E S (o.dst.getD 0) op = some (.val v, E, S) → (putK False E o.dst o.kd (.val v) fun E' => k E' S) →
      ∃ r E1 S1 E', (∃ N, ∀ n, N ≤ n → stepX (evF K n) E S (o.dst.getD 0) o.op = some (r, E1, S1)) ∧ putO o E1 r = some E' ∧ k E' S1 := by
    intro op v hop hn hq h
    rw [putK_P] at h
    obtain ⟨E', hp, h⟩ := elim_some h
    exact ⟨_, E, S, E', ⟨0, fun n _ => by rw [hop, stepX_O hn]; exact hq⟩, hp, h⟩
  unfold stepP at h
  split at h
  · rename_i f args hop
    simp only [stepCall] at h
    cases hf : E.op f with
    | none => rw [hf] at h; exact h.elim
    | some v =>
      rw [hf] at h
      cases v <;> simp only [oE] at h
      rename_i g first cap
      cases has : E.ops args with
      | none => rw [has] at h; exact h.elim
      | some as =>
        rw [has] at h
        obtain ⟨v, S', ⟨N, hN⟩, h⟩ := h
        rw [putK_P] at h
        obtain ⟨E', hp, h⟩ := elim_some h
        exact ⟨_, E, S', E', ⟨N, fun n hn => by simp only [hop, stepX, stepCall, hf, has, oE, callE, hN n hn]⟩, hp, h⟩
  · rename_i sz x j hop
    split at h
    · rename_i s xs t kk n hx hj
      obtain ⟨c, ⟨rfl, h0, hc⟩, h⟩ := h
      refine val _ _ hop (by simp) ?_ h
      have h0' : ¬ n < 0 := by omega
      simp [stepO, stepOp, hx, hj, oE, intOf, iaV, h0', hc]
    · rename_i a off len cap t kk n hx hj
      obtain ⟨⟨h0, hl, xs, hc⟩, h⟩ := h
      refine val _ _ hop (by simp) ?_ h
      have h0' : ¬ n < 0 := by omega
      simp [stepO, stepOp, hx, hj, oE, intOf, iaV, h0', hc, hl]
    · exact gen _ hop (by simp) h
  · rename_i g n a hop
    split at h
    · rename_i cs ha
      have one : ∀ m, n = 1 → g = false → cs.head? = some m → stepO E S (o.dst.getD 0) (.ld g n a) = some (.val m, E, S) := by
        rintro m rfl rfl hm
        simp [stepO, stepOp, ha, oE, ldC, head_cut hm, Ab.val]
      split at h
      · obtain ⟨ds, hd, h⟩ := exL_some h
        refine val _ _ hop (by simp) ?_ h
        simp [stepO, stepOp, ha, oE, ldC, hd, Ab.val]
      · split at h
        all_goals
          obtain ⟨m, ⟨h1, h2⟩, h⟩ := h
          exact val _ _ hop (by simp) (one _ h1 rfl h2) h
    · exact gen _ hop (by simp) h
  · rename_i x hop
    refine gen _ hop (by simp) ?_
    rw [cvs_eq]; exact h
  · rename_i op hn1 hn2 hn3 hn4
    exact gen _ rfl (fun f as e => hn1 f as e) h
def stepW (K : Cfg) (o : AOper) (E : Env) (S : St) (k : Env → St → Prop) : Prop :=
  oE False (wants E o.guard) fun t => match t with
  | false => k (drop (know E o.guard false) o.dst) S
  | true => stepP K (know E o.guard true) S o k
theorem stepW_run {K : Cfg} {o : AOper} {E E2 : Env} {S : St} {k : Env → St → Prop} (he : PEq E E2) (h : stepW K o E S k) : ∃ E' E2' S', PEq E' E2' ∧ Run1 K o E2 S E2' S' ∧ k E' S' := by
  unfold stepW at h
  cases hw : wants E o.guard with
  | none => rw [hw] at h; exact h.elim
  | some t =>
    rw [hw] at h
    simp only [oE] at h
    have hk := know_eq hw
    have hw2 : wants E2 o.guard = some t := (he.wants _).trans hw
    have hke : PEq (know E o.guard t) E2 := ⟨fun n => (he.t n).trans (hk.t n), fun n => (he.p n).trans (hk.p n), fun n => (he.r n).trans (hk.r n), he.g.trans hk.g⟩
    cases t with
    | false =>
      have hd := drop_put (o := o) (know E o.guard false)
      obtain ⟨E2', hp2, hpe⟩ := hke.put hd
      refine ⟨_, E2', S, hpe, ⟨0, fun n _ => ?_⟩, h⟩
      unfold step1
      rw [stepG_X, hw2]
      simp only [oE]
      rw [drop_put] at hp2
      exact congrArg (fun q => q.map fun E => (E, S)) hp2
    | true =>
      obtain ⟨r, E1, S1, E', ⟨N, hN⟩, hp, hq⟩ := stepP_run h
      obtain ⟨E21, hx, hpe⟩ := hke.step (hN N (Nat.le_refl _))
      obtain ⟨E2', hp2, hpe2⟩ := hpe.put hp
      refine ⟨E', E2', S1, hpe2, ⟨N, fun n hn => ?_⟩, hq⟩
      obtain ⟨u, hu, hok, hmv⟩ := stepX_loc (hN n hn)
      obtain ⟨u0, hu0, hok0, hmv0⟩ := stepX_loc (hN N (Nat.le_refl _))
      -- the same for every count
      have hsame : stepX (evF K n) E2 S (o.dst.getD 0) o.op = some (r, E21, S1) := by
        by_cases hc : ∃ f as, o.op = .call f as
        · obtain ⟨f, as, hc⟩ := hc
          have e1 := hN n hn
          have e2 := hx
          rw [hc] at e1 e2 ⊢
          simp only [stepX, stepCall] at e1 e2 ⊢
          obtain ⟨v, hv, e1⟩ := oE_some e1
          obtain ⟨v2, hv2, e2⟩ := oE_some e2
          have hag := hke.agree (usesO (opO (.call f as)))
          have hop : E2.op f = some v := (ag_op hag (x := f) (by simp [opO])).trans hv
          rw [hop] at hv2
          cases hv2
          rw [hop]
          simp only [oE]
          cases v <;> simp only [reduceCtorEq] at e1 e2
          obtain ⟨ws, hws, e1⟩ := oE_some e1
          obtain ⟨ws2, hws2, e2⟩ := oE_some e2
          have hops : E2.ops as = some ws := (ag_ops (as := as) hag (fun x hx => by simp [opO, hx])).trans hws
          rw [hops] at hws2
          cases hws2
          rw [hops]
          simp only [oE, callE] at e1 e2 ⊢
          split at e1
          · rename_i w S2 hrc
            simp only [Option.some.injEq, Prod.mk.injEq] at e1
            obtain ⟨rfl, _, rfl⟩ := e1
            split at e2
            · simp only [Option.some.injEq, Prod.mk.injEq] at e2
              rw [e2.2.1]
            · simp at e2
          · simp at e1
        · have hn' : ∀ f as, o.op ≠ .call f as := fun f as e => hc ⟨f, as, e⟩
          rw [stepX_O hn'] at hx ⊢
          exact hx
      unfold step1
      rw [stepG_X, hw2]
      simp only [oE, hsame, Option.bind_some, hp2]
def goP (K : Cfg) : List AOper → Env → St → (Env → St → Prop) → Prop
  | [], E, S, k => k E S
  | o :: r, E, S, k => stepW K o E S fun E' S' => goP K r E' S' k
def goD (K : Cfg) : List (AOper × List AOper) → Env → St → (Env → St → Prop) → Prop
  | [], E, S, k => k E S
  | (o, l) :: r, E, S, k => stepW K o E S fun E' S' => match l with
    | [] => goD K r E' S' k
    | l => l.all (again E' S') = true ∧ goD K r E' S' k
theorem goP_run {K : Cfg} : ∀ (ops : List AOper) {k : Env → St → Prop} {E E2 : Env} {S : St}, PEq E E2 → goP K ops E S k → ∃ E' E2' S', PEq E' E2' ∧ (∃ N, ∀ n, N ≤ n → runOps none (callE (evF K n)) ops E2 S (fun E S => some (E, S)) = some (E2', S')) ∧ k E' S'
  | [], k, E, E2, S, he, h => ⟨E, E2, S, he, ⟨0, fun _ _ => rfl⟩, h⟩
  | o :: r, k, E, E2, S, he, h => by
    simp only [goP] at h
    obtain ⟨E1, E21, S1, he1, ⟨N1, h1⟩, h⟩ := stepW_run he h
    obtain ⟨E', E2', S', he', ⟨N2, h2⟩, h⟩ := goP_run r he1 h
    refine ⟨E', E2', S', he', ⟨max N1 N2, fun n hn => ?_⟩, h⟩
    simp only [runOps]
    rw [stepG_bind, h1 n (by omega)]
    exact h2 n (by omega)
theorem goD_run {K : Cfg} : ∀ (ops : List (AOper × List AOper)) {k : Env → St → Prop} {E E2 : Env} {S : St}, PEq E E2 → goD K ops E S k → ∃ E' E2' S', PEq E' E2' ∧ (∃ N, ∀ n, N ≤ n → runDr none (callE (evF K n)) ops E2 S (fun E S => some (E, S)) = some (E2', S')) ∧ k E' S'
  | [], k, E, E2, S, he, h => ⟨E, E2, S, he, ⟨0, fun _ _ => rfl⟩, h⟩
  | (o, l) :: r, k, E, E2, S, he, h => by
    simp only [goD] at h
    obtain ⟨E1, E21, S1, he1, ⟨N1, h1⟩, h⟩ := stepW_run he h
    have hsp : l.all (again E1 S1) = true ∧ goD K r E1 S1 k := by
      cases l with
      | nil => exact ⟨rfl, h⟩
      | cons x l => exact h
    obtain ⟨hal, h⟩ := hsp
    have hal2 : l.all (again E21 S1) = true := List.all_eq_true.2 (fun y hy => he1.again (List.all_eq_true.1 hal y hy))
    obtain ⟨E', E2', S', he', ⟨N2, h2⟩, h⟩ := goD_run r he1 h
    refine ⟨E', E2', S', he', ⟨max N1 N2, fun n hn => ?_⟩, h⟩
    simp only [runDr]
    rw [stepG_bind, h1 n (by omega)]
    simp only [Option.bind_some, hal2]
    exact h2 n (by omega)
/-! ### Code -/
def wP (K : Cfg) : C → (Ex → Env → St → Prop) → Env → St → Prop
  | .skip, k, E, S => k .nor E S
  | .seq a b, k, E, S => wP K a (fun e E S => match e with
    | .nor => wP K b k E S
    | e => k e E S) E S
  | .rgn ops live, k, E, S => goP K ops E S (fun E S => k .nor (E.keep live) S)
  | .drg ops live, k, E, S => goD K ops E S (fun E S => k .nor (E.keep live) S)
  | .cond c a b, k, E, S => match E.op c with
    | some (.b t) => match t with
      | true => wP K a k E S
      | false => wP K b k E S
    | _ => False
  | .blk id c, k, E, S => wP K c (fun e E S => k (match e with | .exit j => if j = id then .nor else .exit j | e => e) E S) E S
  | .loop live c, k, E, S => TC K (.loop live c) E S k
  | .scp c l r, k, E, S => wP K c (fun e E S => match e with
    | .goto j => j = l ∧ wP K r (fun e E S => match e with | .goto _ => False | e => k e E S) E S
    | e => k e E S) E S
  | .goto l, k, E, S => k (.goto l) E S
  | .exit id, k, E, S => k (.exit id) E S
  | .ret, k, E, S => k .ret E S
theorem TC.seq {K : Cfg} {a b : C} {E : Env} {S : St} {k : Ex → Env → St → Prop} (h : TC K a E S (fun e E S => match e with
    | .nor => TC K b E S k
    | e => k e E S)) : TC K (.seq a b) E S k := by
  obtain ⟨e, E', S', ⟨N, hN⟩, hk⟩ := h
  cases e with
  | nor =>
    obtain ⟨e2, E2, S2, ⟨N2, hN2⟩, hk⟩ := hk
    refine ⟨e2, E2, S2, ⟨max N N2 + 1, fun n hn m hm => ?_⟩, hk⟩
    obtain ⟨m, rfl, _⟩ := pos_of hm
    simp only [evC]; rw [hN n (by omega) m (by omega)]; exact hN2 n (by omega) m (by omega)
  | _ =>
    refine ⟨_, E', S', ⟨N + 1, fun n hn m hm => ?_⟩, hk⟩
    obtain ⟨m, rfl, _⟩ := pos_of hm
    simp only [evC]; rw [hN n (by omega) m (by omega)]
theorem wP_run {K : Cfg} : ∀ (c : C) {k : Ex → Env → St → Prop} {E : Env} {S : St}, wP K c k E S → TC K c E S k
  | .skip, k, E, S, h => wC_run .skip h
  | .exit id, k, E, S, h => wC_run (.exit id) h
  | .goto id, k, E, S, h => wC_run (.goto id) h
  | .ret, k, E, S, h => wC_run .ret h
  | .loop live c, k, E, S, h => h
  | .rgn ops live, k, E, S, h => by
    obtain ⟨E', E2', S', he, ⟨N, hN⟩, hk⟩ := goP_run ops (k := fun E S => k .nor (E.keep live) S) (PEq.refl E) h
    refine ⟨.nor, E'.keep live, S', ⟨N + 1, fun n hn m hm => ?_⟩, hk⟩
    obtain ⟨m, rfl, _⟩ := pos_of hm
    simp only [evC]; rw [runOps_bind, hN n (by omega), ← he.keep]; rfl
  | .drg ops live, k, E, S, h => by
    obtain ⟨E', E2', S', he, ⟨N, hN⟩, hk⟩ := goD_run ops (k := fun E S => k .nor (E.keep live) S) (PEq.refl E) h
    refine ⟨.nor, E'.keep live, S', ⟨N + 1, fun n hn m hm => ?_⟩, hk⟩
    obtain ⟨m, rfl, _⟩ := pos_of hm
    simp only [evC]; rw [runDr_bind, hN n (by omega), ← he.keep]; rfl
  | .cond x a b, k, E, S, h => by
    unfold wP at h
    split at h
    · rename_i t hx
      cases t with
      | true =>
        obtain ⟨e, E', S', ⟨N, hN⟩, hk⟩ := wP_run a h
        refine ⟨e, E', S', ⟨N + 1, fun n hn m hm => ?_⟩, hk⟩
        obtain ⟨m, rfl, _⟩ := pos_of hm
        simp only [evC, hx, if_true]; exact hN n (by omega) m (by omega)
      | false =>
        obtain ⟨e, E', S', ⟨N, hN⟩, hk⟩ := wP_run b h
        refine ⟨e, E', S', ⟨N + 1, fun n hn m hm => ?_⟩, hk⟩
        obtain ⟨m, rfl, _⟩ := pos_of hm
        simp only [evC, hx, Bool.false_eq_true, if_false]; exact hN n (by omega) m (by omega)
    · exact h.elim
  | .blk id c, k, E, S, h => by
    obtain ⟨e, E', S', ⟨N, hN⟩, hk⟩ := wP_run c (k := fun e E S => k (match e with | .exit j => if j = id then .nor else .exit j | e => e) E S) h
    refine ⟨_, E', S', ⟨N + 1, fun n hn m hm => ?_⟩, hk⟩
    obtain ⟨m, rfl, _⟩ := pos_of hm
    simp only [evC]; rw [hN n (by omega) m (by omega)]
    cases e <;> rfl
  | .scp c l r, k, E, S, h => by
    obtain ⟨e, E', S', ⟨N, hN⟩, hk⟩ := wP_run c (k := fun e E S => match e with
      | .goto j => j = l ∧ wP K r (fun e E S => match e with | .goto _ => False | e => k e E S) E S
      | e => k e E S) h
    cases e with
    | goto j =>
      obtain ⟨rfl, hk⟩ := hk
      obtain ⟨e2, E2, S2, ⟨N2, hN2⟩, hk⟩ := wP_run r hk
      refine ⟨e2, E2, S2, ⟨max N N2 + 1, fun n hn m hm => ?_⟩, ?_⟩
      · obtain ⟨m, rfl, _⟩ := pos_of hm
        simp only [evC]; rw [hN n (by omega) m (by omega)]
        simp only [if_true]
        rw [hN2 n (by omega) m (by omega)]
        cases e2 <;> first | rfl | exact hk.elim
      · cases e2 <;> first | exact hk | exact hk.elim
    | nor => exact ⟨_, E', S', ⟨N + 1, fun n hn m hm => by obtain ⟨m, rfl, _⟩ := pos_of hm; simp only [evC]; rw [hN n (by omega) m (by omega)]⟩, hk⟩
    | ret => exact ⟨_, E', S', ⟨N + 1, fun n hn m hm => by obtain ⟨m, rfl, _⟩ := pos_of hm; simp only [evC]; rw [hN n (by omega) m (by omega)]⟩, hk⟩
    | exit j => exact ⟨_, E', S', ⟨N + 1, fun n hn m hm => by obtain ⟨m, rfl, _⟩ := pos_of hm; simp only [evC]; rw [hN n (by omega) m (by omega)]⟩, hk⟩
  | .seq a b, k, E, S, h => TC.seq ((wP_run a (k := fun e E S => match e with
      | .nor => wP K b k E S
      | e => k e E S) h).mono (fun e E' S' hq => by
        cases e with
        | nor => exact wP_run b hq
        | _ => exact hq))
/-- A round of a loop. -/
theorem loop_run {K : Cfg} {live : List Nat} {c : C} {E : Env} {S : St} {k : Ex → Env → St → Prop}
    (h : wP K c (fun e E' S' => match e with
      | .nor => TC K (.loop live c) E' S' k
      | e => k e E' S') (E.keep live) S) : TC K (.loop live c) E S k := TC_loop (wP_run c h)
theorem TF_run {K : Cfg} {f : FuncId} {d : AFn} (hd : K.fd f = some d) {args : List AV} {S : St} {Q : AV → St → Prop} (hl : args.length ≤ d.nt)
    (h : wP K d.code (outs d Q) (env0 args) S) : TF K f args S Q := by
  obtain ⟨e, E, S', ⟨N, hN⟩, hk⟩ := wP_run d.code h
  have hrun : ∀ n, N + 1 ≤ n → evF K n f args S = (match e with
      | .exit _ => none
      | .goto _ => none
      | _ => match resV E S' d.res with
        | some vs => if d.raw then some (one vs, S') else frz 1000 S' (one vs)
        | none => none) := by
    intro n hn
    obtain ⟨n, rfl, _⟩ := pos_of hn
    simp only [evF, hd]
    rw [if_pos hl, hN n (by omega) n (by omega)]
    cases e <;> rfl
  have key : ∀ {vs : List AV}, (match d.raw with
      | true => Q (one vs) S'
      | false => match frz 1000 S' (one vs) with
        | some (v, S'') => Q v S''
        | none => False) → (∀ n, N + 1 ≤ n → evF K n f args S = if d.raw then some (one vs, S') else frz 1000 S' (one vs)) → TF K f args S Q := by
    intro vs hq hr
    cases hraw : d.raw with
    | true =>
      rw [hraw] at hq
      exact ⟨_, S', ⟨N + 1, fun n hn => by rw [hr n hn, hraw]; rfl⟩, hq⟩
    | false =>
      rw [hraw] at hq
      simp only at hq
      split at hq
      · rename_i v S'' hz
        exact ⟨v, S'', ⟨N + 1, fun n hn => by rw [hr n hn, hraw]; exact hz⟩, hq⟩
      · exact hq.elim
  unfold outs at hk
  cases e with
  | exit j => exact hk.elim
  | goto j => exact hk.elim
  | nor =>
    simp only at hk hrun
    cases hr : resV E S' d.res with
    | none => rw [hr] at hk; exact hk.elim
    | some vs => rw [hr] at hk hrun; exact key hk hrun
  | ret =>
    simp only at hk hrun
    cases hr : resV E S' d.res with
    | none => rw [hr] at hk; exact hk.elim
    | some vs => rw [hr] at hk hrun; exact key hk hrun
/-- One round of a loop. -/
def C.body : C → C | .loop _ c => c | c => c
def C.liv : C → List Nat | .loop l _ => l | _ => []
def C.isLoop : C → Bool | .loop _ _ => true | _ => false
def rnd (K : Cfg) (c : C) (E : Env) (S : St) (k : Ex → Env → St → Prop) : Prop := wP K c.body (fun e E' S' => match e with
  | .nor => TC K c E' S' k
  | e => k e E' S') (E.keep c.liv) S
theorem TC.go {K : Cfg} {c : C} {E : Env} {S : St} {k : Ex → Env → St → Prop} (h0 : c.isLoop = true) (h : rnd K c E S k) : TC K c E S k := by
  cases c <;> simp [C.isLoop] at h0
  exact loop_run h
theorem TF.of {K : Cfg} {f : FuncId} {d : AFn} {args : List AV} {S : St} {Q : AV → St → Prop} {P : Prop} (e : wP K d.code (outs d Q) (env0 args) S = P) (hd : K.fd f = some d) (hl : args.length ≤ d.nt) (h : P) : TF K f args S Q :=
  TF_run hd hl (e ▸ h)
/-! ### Names for places of the code -/
/-- The code at a place (left, right), and what follows it. -/
def C.at : List Bool → C → C
  | [], c => c
  | false :: p, .seq a _ => a.at p
  | true :: p, .seq _ b => b.at p
  | false :: p, .cond _ a _ => a.at p
  | true :: p, .cond _ _ b => b.at p
  | _ :: p, .blk _ c => c.at p
  | _ :: p, .loop _ c => c.at p
  | _, c => c
def C.kt (K : Cfg) : List Bool → C → (Ex → Env → St → Prop) → Ex → Env → St → Prop
  | [], _, k => k
  | false :: p, .seq a b, k => a.kt K p fun e E S => match e with
    | .nor => wP K b k E S
    | e => k e E S
  | true :: p, .seq _ b, k => b.kt K p k
  | false :: p, .cond _ a _, k => a.kt K p k
  | true :: p, .cond _ _ b, k => b.kt K p k
  | _ :: p, .blk id c, k => c.kt K p fun e E S => k (match e with | .exit j => if j = id then .nor else .exit j | e => e) E S
  | _ :: p, .loop live c, k => c.kt K p fun e E S => match e with
    | .nor => TC K (.loop live c) E S k
    | e => k e E S
  | _, _, k => k
def mkT : List (Nat × AV) → Mp AV | [] => .nil | (n, v) :: r => (mkT r).set n (some v)
def mkR : List (Nat × List AV) → Mp (List AV) | [] => .nil | (n, v) :: r => (mkR r).set n (some v)
def mkP : List Nat → Mp (Nat × Nat) | [] => .nil | n :: r => (mkP r).set n (some (n, 0))
def mkE (ts : List (Nat × AV)) (rs : List (Nat × List AV)) : Env := { t := mkT ts, p := mkP (rs.map (·.1)), r := mkR rs, g := [] }
end Go.Ab
