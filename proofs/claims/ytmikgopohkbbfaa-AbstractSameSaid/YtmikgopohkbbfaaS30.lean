/- What an operation looks at. -/
import Derived.Test.YtmikgopohkbbfaaS29
import Derived.Orders
namespace Go.Ab
open Go.RowKit (Below)
/-! ### Equality that is decided -/
mutual
theorem AV.beq_eq : ∀ (x y : AV), AV.beq x y = true → x = y
  | .b x, .b y, h => by simp [AV.beq] at h; rw [h]
  | .i k n, .i k' n', h => by simp [AV.beq] at h; rw [h.1, h.2]
  | .s x, .s y, h => by simp [AV.beq] at h; rw [h]
  | .np, .np, _ => rfl
  | .rf a o, .rf a' o', h => by simp [AV.beq] at h; rw [h.1, h.2]
  | .fz x, .fz y, h => by simp only [AV.beq] at h; rw [AV.beqs_eq x y h]
  | .ap a j o, .ap a' j' o', h => by simp [AV.beq] at h; rw [h.1.1, h.1.2, h.2]
  | .sl z xs t, .sl z' ys t', h => by
    simp only [AV.beq, Bool.and_eq_true, beq_iff_eq] at h
    rw [h.1.1, AV.beqs_eq xs ys h.1.2, h.2]
  | .ar a o l c t, .ar a' o' l' c' t', h => by simp [AV.beq] at h; rw [h.1.1.1.1, h.1.1.1.2, h.1.1.2, h.1.2, h.2]
  | .fn f x y, .fn f' x' y', h => by
    simp only [AV.beq, Bool.and_eq_true, beq_iff_eq] at h
    rw [h.1.1, AV.beqs_eq x x' h.1.2, AV.beqs_eq y y' h.2]
  | .nf, .nf, _ => rfl
  | .ag x, .ag y, h => by simp only [AV.beq] at h; rw [AV.beqs_eq x y h]
  | .tu x, .tu y, h => by simp only [AV.beq] at h; rw [AV.beqs_eq x y h]
  | .ni, .ni, _ => rfl
theorem AV.beqs_eq : ∀ (x y : List AV), AV.beqs x y = true → x = y
  | [], [], _ => rfl
  | x :: xs, y :: ys, h => by
    simp only [AV.beqs, Bool.and_eq_true] at h
    rw [AV.beq_eq x y h.1, AV.beqs_eq xs ys h.2]
end
/-! ### Two frames that agree -/
def Agree (E1 E2 : Env) (us : List Nat) : Prop := ∀ n ∈ us, E2.t.get n = E1.t.get n ∧ E2.p.get n = E1.p.get n
def RowsAgree (E1 E2 : Env) (us : List Nat) : Prop := ∀ n ∈ us, ∀ t off, E1.p.get n = some (t, off) → E2.r.get t = E1.r.get t
section
variable {E1 E2 : Env} {S : St}
theorem uses_mem {n : Nat} : ∀ {l : List O}, O.t n ∈ l → n ∈ usesO l
  | .t m :: l, h => by
    simp only [usesO]
    rcases List.mem_cons.1 h with h | h
    · cases h; exact List.mem_cons_self
    · exact List.mem_cons_of_mem _ (uses_mem h)
  | .c _ :: l, h => by
    simp only [usesO]
    rcases List.mem_cons.1 h with h | h
    · cases h
    · exact uses_mem h
theorem ag_op {l : List O} (h : Agree E1 E2 (usesO l)) {x : O} (hx : x ∈ l) : E2.op x = E1.op x := by
  cases x with
  | t n => exact (h n (uses_mem hx)).1
  | c v => rfl
theorem ag_ad {l : List O} (h : Agree E1 E2 (usesO l)) {x : O} (hx : x ∈ l) : E2.ad x = E1.ad x := by
  cases x with
  | t n =>
    obtain ⟨h1, h2⟩ := h n (uses_mem hx)
    simp only [Env.ad, h1, h2]
  | c v => rfl
theorem ag_sub {l l' : List O} (h : Agree E1 E2 (usesO l)) (hs : ∀ x ∈ l', x ∈ l) : Agree E1 E2 (usesO l') := by
  intro n hn
  refine h n (uses_mem (hs _ ?_))
  clear h hs
  induction l' with
  | nil => simp [usesO] at hn
  | cons y r ih =>
    cases y with
    | t m =>
      simp only [usesO] at hn
      rcases List.mem_cons.1 hn with rfl | hn
      · exact List.mem_cons_self
      · exact List.mem_cons_of_mem _ (ih hn)
    | c v => exact List.mem_cons_of_mem _ (ih hn)
theorem ag_ops : ∀ {as : List O} {l : List O}, Agree E1 E2 (usesO l) → (∀ x ∈ as, x ∈ l) → E2.ops as = E1.ops as
  | [], _, _, _ => rfl
  | x :: r, l, h, hs => by
    simp only [Env.ops]
    rw [ag_op h (hs x List.mem_cons_self), ag_ops h (fun y hy => hs y (List.mem_cons_of_mem _ hy))]
theorem ag_build : ∀ {ps : List (Nat × Nat × O)} {l : List O} (z : List AV), Agree E1 E2 (usesO l) → (∀ x ∈ ps.map (·.2.2), x ∈ l) → buildV E2 z ps = buildV E1 z ps
  | [], _, _, _, _ => rfl
  | (off, n, x) :: r, l, z, h, hs => by
    simp only [buildV]
    rw [ag_op h (hs x (by simp))]
    split
    · split
      · split
        · exact ag_build _ h (fun y hy => hs y (by simp only [List.map_cons]; exact List.mem_cons_of_mem _ hy))
        · rfl
      · rfl
    · rfl
theorem ag_bsl {sz : Nat} : ∀ {ps : List (Nat × O)} {l : List O} (z : List AV), Agree E1 E2 (usesO l) → (∀ x ∈ ps.map (·.2), x ∈ l) → bslV E2 sz z ps = bslV E1 sz z ps
  | [], _, _, _, _ => rfl
  | (j, x) :: r, l, z, h, hs => by
    simp only [bslV]
    rw [ag_op h (hs x (by simp))]
    split
    · split
      · exact ag_bsl _ h (fun y hy => hs y (by simp only [List.map_cons]; exact List.mem_cons_of_mem _ hy))
      · rfl
    · rfl
theorem ag_bnd {l : List O} (h : Agree E1 E2 (usesO l)) {o : Option O} (hs : ∀ x, o = some x → x ∈ l) : bnd E2 o = bnd E1 o := by
  cases o with
  | none => rfl
  | some x => simp only [bnd]; rw [ag_op h (hs x rfl)]
theorem ag_ldC {l : List O} {x : O} {a : Ad} {n : Nat} (hr : RowsAgree E1 E2 (usesO l)) (hx : x ∈ l) (ha : E1.ad x = some a) : ldC E2 S n a = ldC E1 S n a := by
  cases a with
  | v y => cases y <;> rfl
  | rg t off =>
    cases x with
    | c v => simp [Env.ad] at ha
    | t m =>
      simp only [Env.ad] at ha
      split at ha
      · rename_i t' off' hp
        simp only [Option.some.injEq, Ad.rg.injEq] at ha
        obtain ⟨rfl, rfl⟩ := ha
        simp only [ldC]
        rw [hr m (uses_mem hx) _ _ hp]
      · cases hq : E1.t.get m <;> simp [hq] at ha
theorem oE_eq {α β : Type} {x : Option α} {f g : α → Option β} (h : ∀ v, x = some v → f v = g v) : oE none x f = oE none x g := by
  cases x with
  | none => rfl
  | some v => exact h v rfl
end
/-! ### What is yielded, and the state behind -/
def stepV (E : Env) (S : St) (d : Nat) (op : Op) : Option (Rs × St) := stepOp none E S d op fun r _ S' => some (r, S')
def stepR (E : Env) (S : St) (d : Nat) (op : Op) : Option Rs := stepOp none E S d op fun r _ _ => some r
/-- Touches no row of the frame. -/
def isRg : Op → Bool | .new m _ => m == .reg | .box m _ _ => m == .reg | _ => false
def keepsE : Op → Bool | .st .. | .call .. => false | op => !isRg op
theorem stepO_V {E : Env} {S : St} {d : Nat} {op : Op} (hk : keepsE op = true) : stepO E S d op = (stepV E S d op).bind fun q => some (q.1, E, q.2) := by
  cases op <;> simp only [keepsE, isRg, Bool.not_true, Bool.false_eq_true] at hk
  case new m z => cases m <;> simp at hk <;> rfl
  case box m n x =>
    cases m
    · simp at hk
    all_goals
      simp only [stepO, stepV, stepOp]
      refine oE_congr (fun v => ?_)
      split <;> rfl
  all_goals
    simp only [stepO, stepV, stepOp]
    (repeat' first | rfl | (refine oE_congr (fun _ => ?_)) | split)
theorem stepV_R {E : Env} {S : St} {d : Nat} {op : Op} (hc : isC op = false) (ha : isA op = false) : stepV E S d op = (stepR E S d op).bind fun r => some (r, S) := by
  cases op <;> simp only [isC, Bool.true_eq_false] at hc
  case new m z => cases m <;> simp [isA] at ha <;> rfl
  case box m n x =>
    cases m <;> simp [isA] at ha
    simp only [stepR, stepV, stepOp]
    refine oE_congr (fun v => ?_)
    split <;> rfl
  case mk arr sz by_ z l c =>
    simp only [isA] at ha
    subst ha
    simp only [stepR, stepV, stepOp]
    (repeat' first | rfl | (refine oE_congr (fun _ => ?_)) | split)
  all_goals
    simp only [stepR, stepV, stepOp]
    (repeat' first | rfl | (refine oE_congr (fun _ => ?_)) | split)
theorem stepR_S {E : Env} {S1 S2 : St} {d : Nat} {op : Op} (hc : isC op = false) (ha : isA op = false) (hl : isL op = false) : stepR E S1 d op = stepR E S2 d op := by
  cases op <;> simp only [isC, Bool.true_eq_false] at hc <;> simp only [isL, Bool.true_eq_false] at hl
  case new m z => cases m <;> simp [isA] at ha <;> rfl
  case mk arr sz by_ z l c => simp only [isA] at ha; subst ha; rfl
  case box m n x => cases m <;> simp [isA] at ha; rfl
  all_goals rfl
theorem congV {E1 E2 : Env} {S : St} {d : Nat} {op : Op} (hk : keepsE op = true) (h : Agree E1 E2 (usesO (opO op))) (hr : isL op = true → RowsAgree E1 E2 (usesO (opO op))) : stepV E2 S d op = stepV E1 S d op := by
  cases op <;> simp only [keepsE, isRg, Bool.not_true, Bool.false_eq_true] at hk <;> simp only [opO] at h hr <;> simp only [stepV, stepOp]
  case mv x =>
    cases x with
    | t n => simp only; rw [(h n (by simp [usesO])).1]
    | c v => rfl
  case pick c a b => rw [ag_op h (x := c) (by simp), ag_op h (x := a) (by simp), ag_op h (x := b) (by simp)]
  case new m z => cases m <;> simp at hk <;> rfl
  case box m n x =>
    rw [ag_op h (x := x) (by simp)]
    cases m
    · simp at hk
    all_goals rfl
  case build z ps => rw [ag_build z h (fun _ hx => hx)]
  case bsl sz len z ps => rw [ag_bsl _ h (fun _ hx => hx)]
  case ld g n a =>
    rw [ag_ad h (x := a) (by simp)]
    refine oE_eq (fun v hv => ?_)
    rw [ag_ldC (hr rfl) (x := a) (by simp) hv]
  case nchk x => rw [ag_ad h (x := x) (by simp)]
  case bin op x y => rw [ag_op h (x := x) (by simp), ag_op h (x := y) (by simp)]
  case eqs neg c x y => rw [ag_op h (x := x) (by simp), ag_op h (x := y) (by simp)]
  case un op x => rw [ag_op h (x := x) (by simp)]
  case cvi k x => rw [ag_op h (x := x) (by simp)]
  case cvs x => rw [ag_op h (x := x) (by simp)]
  case cvb x => rw [ag_op h (x := x) (by simp)]
  case cvm x => rw [ag_op h (x := x) (by simp)]
  case fa off x => rw [ag_ad h (x := x) (by simp)]
  case ia sz x j => rw [ag_op h (x := x) (by simp), ag_op h (x := j) (by simp)]
  case iap sz len x j => rw [ag_ad h (x := x) (by simp), ag_op h (x := j) (by simp)]
  case ixs x j => rw [ag_op h (x := x) (by simp), ag_op h (x := j) (by simp)]
  case slc sz x lo hi mx =>
    rw [ag_op h (x := x) (by simp), ag_bnd h (o := lo) (fun y hy => by simp [hy]), ag_bnd h (o := hi) (fun y hy => by simp [hy]), ag_bnd h (o := mx) (fun y hy => by simp [hy])]
  case mk arr sz by_ z l c => rw [ag_op h (x := l) (by simp), ag_op h (x := c) (by simp)]
  case ext j x => rw [ag_op h (x := x) (by simp)]
  case mkf f a b => rw [ag_ops (as := a) h (fun x hx => by simp [hx]), ag_ops (as := b) h (fun x hx => by simp [hx])]
  case len str x => rw [ag_op h (x := x) (by simp)]
  case cap x => rw [ag_op h (x := x) (by simp)]
  case app arr sz by_ x y => rw [ag_op h (x := x) (by simp), ag_op h (x := y) (by simp)]
  case apz arr sz by_ z x y => rw [ag_op h (x := x) (by simp), ag_op h (x := y) (by simp)]
  case cpy sz x y => rw [ag_op h (x := x) (by simp), ag_op h (x := y) (by simp)]
  case clr z x => rw [ag_op h (x := x) (by simp)]
  case mx neg xs => rw [ag_ops (as := xs) h (fun x hx => by simpa using hx)]

end Go.Ab
