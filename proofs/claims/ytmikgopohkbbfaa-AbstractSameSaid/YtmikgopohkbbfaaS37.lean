/- Any order comes to what the order of one's own comes to. -/
import Derived.Test.YtmikgopohkbbfaaS36
namespace Go.Ab
open Go.RowKit (Below)
/-- The frame's entry, its ids told anew. -/
def Gh.rebase (G0 G : Gh) : Gh := { G with kind := G0.kind }
section
variable {G0 : Gh} {W0 : World} {G G' : Gh} {W W' : World} {S S' : St} {rho rho' : Nat → Nat} {E E' : Env} {a a' : Act} {nt : Nat}
theorem rebase_ext (h : ARel G0 W0 G W rho E a nt) : Ext G0 W0 (G0.rebase G) W0 where
  fz _ _ hk := ⟨hk, fun _ hu => hu⟩
  next := h.e0.next
  mu := h.e0.mu
  al := h.e0.al
  asz := h.e0.asz
  alen := h.e0.alen
  ta := h.e0.ta
  pend := h.e0.pend
  base := h.e0.base
  below := Below.refl _ _
  pr _ _ hk := ⟨hk, rfl, rfl⟩
  pend' := h.e0.pend'
  pc' := h.e0.pc'
theorem rebase_rel (h : ARel G0 W0 G W rho E a nt) : ARel (G0.rebase G) W0 G W rho E a nt where
  e0 := { fz := h.e0.fz, next := Nat.le_refl _, mu := fun _ _ _ => rfl, al := fun _ _ _ => rfl, asz := fun _ _ _ => rfl, alen := fun _ _ _ => rfl, ta := fun _ _ => rfl, pend := fun _ _ h => h, base := rfl
          below := by
            have := h.e0.below
            rw [← h.e0.base] at this
            exact this
          pr := h.e0.pr, pend' := fun _ _ => rfl, pc' := fun _ _ => rfl }
  f0 := h.f0
  size := h.size
  defers := h.defers
  t := h.t
  p := h.p
  r := h.r
  inj := h.inj
theorem rebase_back (h : ARel G0 W0 G W rho E a nt) (h' : ARel (G0.rebase G) W0 G' W' rho' E' a' nt) : ARel G0 W0 G' W' rho' E' a' nt where
  e0 := (rebase_ext h).trans h'.e0
  f0 := h.f0
  size := h'.size
  defers := h'.defers
  t := h'.t
  p := h'.p
  r := h'.r
  inj := h'.inj
/-- A frame of which less is told. -/
theorem ARel.less (h : ARel G0 W0 G W rho E a nt) (ht : ∀ n v, E'.t.get n = some v → E.t.get n = some v) (hp : ∀ n t off, E'.p.get n = some (t, off) → E.p.get n = some (t, off) ∧ (E'.r.get t).isSome = true ∧ (n = t ∨ (n, t) ∈ E'.g)) (hr : ∀ t cs, E'.r.get t = some cs → E.r.get t = some cs) : ARel G0 W0 G W rho E' a nt where
  e0 := h.e0
  f0 := h.f0
  size := h.size
  defers := h.defers
  t n v hv := h.t n v (ht n v hv)
  p n t off hq := by
    obtain ⟨k1, k2, k3⟩ := hp n t off hq
    exact ⟨(h.p n t off k1).1, k3, k2⟩
  r t cs hq := h.r t cs (hr t cs hq)
  inj t t' cs cs' h1 h2 := h.inj t t' cs cs' (hr t cs h1) (hr t' cs' h2)
end
def Lst (L : Array Bool) (x : DI) : Prop := L.getD x.i false = true
def pendR (ord : List DI) (L : Array Bool) (t : Nat) : Prop := ∃ (j : Nat) (x : DI), ord[j]? = some x ∧ ¬ Lst L x ∧ isRg x.o.op = true ∧ x.o.dst = some t
/-- A place on the heap that is told ahead. -/
def Prom (cE : Nat → Env) (cS : Nat → St) (G : Gh) (j : Nat) (x : DI) : Prop := G.pend (cS j).next = true ∧ ∃ v, heapV (cE j) (cS j).next x.o.op = some (v, G.pc (cS j).next)
structure Inv (ops : Array Oper) (ord : List DI) (ef : DI → Bool) (cE : Nat → Env) (cS : Nat → St) (G0 : Gh) (W0 : World) (nt a0 : Nat) (L : Array Bool) (q : Nat) (G : Gh) (W : World) (rho : Nat → Nat) (E : Env) (a : Act) : Prop where
  a : ARel G0 W0 G W rho E a nt
  s : SRel G W (cS q)
  size : L.size = ops.size
  cl : ∀ (i : Nat) (p : Oper), ops[i]? = some p → L.getD i false = true → ∀ e ∈ p.after.toList, Region.binds .any e = true → L.getD e.on false = true
  qa : a0 ≤ q
  qn : q ≤ ord.length
  ph : ∀ (j : Nat) (x : DI), ord[j]? = some x → ef x = true → (j < q ↔ Lst L x)
  dn : ∀ (j : Nat) (x : DI), ord[j]? = some x → Lst L x → ∀ d, x.o.dst = some d → E.t.get d = (cE ord.length).t.get d ∧ E.p.get d = (cE ord.length).p.get d
  un : ∀ n, (∀ (j : Nat) (x : DI), ord[j]? = some x → Lst L x → x.o.dst ≠ some n) → (pendR ord L n → E.t.get n = none ∧ E.p.get n = none) ∧ (¬ pendR ord L n → E.t.get n = (cE 0).t.get n ∧ E.p.get n = (cE 0).p.get n)
  rw : ∀ t, ¬ pendR ord L t → E.r.get t = (cE q).r.get t
  rp : ∀ t, pendR ord L t → E.r.get t = none
  pp : ∀ n t off, E.p.get n = some (t, off) → ¬ pendR ord L t
  rq : ∀ (j : Nat) (x : DI), ord[j]? = some x → ¬ Lst L x → isRg x.o.op = true → ef x = false → ∀ d, x.o.dst = some d → (cE q).r.get d = (cE (j + 1)).r.get d
  hp : ∀ (j : Nat) (x : DI), ord[j]? = some x → ¬ Lst L x → isA x.o.op = true → isRg x.o.op = false → ef x = false → Prom cE cS G j x ∧ G0.next ≤ (cS j).next
/-- Facts of the run that hold throughout. -/
structure Front (ord : List DI) (ef : DI → Bool) (cE : Nat → Env) (cS : Nat → St) (a0 : Nat) : Prop where
  all : ∀ (j : Nat) (x : DI), ord[j]? = some x → isA x.o.op = true → ef x = false → j < a0
  top : a0 = 0 ∨ ∃ (k : Nat) (x : DI), a0 = k + 1 ∧ ord[k]? = some x ∧ isA x.o.op = true ∧ ef x = false
  ap : ∀ (i j : Nat) (x y : DI), i < j → ord[i]? = some x → ord[j]? = some y → isA x.o.op = true → isRg x.o.op = false → ef x = false → isA y.o.op = true → isRg y.o.op = false → ef y = false → (cS i).next < (cS j).next
section
variable {P : Program} {an : An} {fid : FuncId} {rc : Rec} {ops : Array Oper} {ord : List DI} {ef : DI → Bool} {cE : Nat → Env} {cS : Nat → St} {G0 : Gh} {W0 : World} {nt a0 : Nat}
variable {L : Array Bool} {q : Nat} {G : Gh} {W : World} {rho : Nat → Nat} {E : Env} {a : Act}
theorem lst_lt (hs : L.size = ops.size) {i : Nat} (h : L.getD i false = true) : ∃ p, ops[i]? = some p := by
  by_cases hi : i < ops.size
  · exact ⟨_, Array.getElem?_eq_getElem hi⟩
  · have : ¬ i < L.size := by omega
    simp [Array.getD, this] at h
/-- What is listed has all that it needs. -/
theorem Inv.anc (I : Inv ops ord ef cE cS G0 W0 nt a0 L q G W rho E a) (m : Nat) : ∀ (k i : Nat), i < k → L.getD i false = true → ((Region.before ops).getD i 0).testBit m = true → L.getD m false = true
  | 0, _, h, _, _ => by omega
  | k + 1, i, hi, hl, hb => by
    obtain ⟨p, hp⟩ := lst_lt I.size hl
    obtain ⟨e, he, hbe, h⟩ := (before_bit hp m).1 hb
    have hle := I.cl i p hp hl e he hbe
    rcases h with rfl | ⟨h1, h2⟩
    · exact hle
    · exact I.anc m k e.on (by omega) hle h2
theorem Inv.ancL (I : Inv ops ord ef cE cS G0 W0 nt a0 L q G W rho E a) (C : Can P an fid rc ops ord ef cE cS) {j : Nat} {x : DI} (hx : ord[j]? = some x) (hl : Lst L x) {m : Nat} (hb : x.an.testBit m = true) : L.getD m false = true := by
  rw [(C.mem j x hx).2] at hb
  exact I.anc m (x.i + 1) x.i (Nat.lt_succ_self _) hl hb
/-- What may be done next has all that it needs. -/
def Rdy (ops : Array Oper) (L : Array Bool) (x : DI) : Prop := ∀ p, ops[x.i]? = some p → ∀ e ∈ p.after.toList, Region.binds .any e = true → L.getD e.on false = true
theorem Inv.ancR (I : Inv ops ord ef cE cS G0 W0 nt a0 L q G W rho E a) (C : Can P an fid rc ops ord ef cE cS) {j : Nat} {x : DI} (hx : ord[j]? = some x) (hr : Rdy ops L x) {m : Nat} (hb : x.an.testBit m = true) : L.getD m false = true := by
  obtain ⟨⟨p, hp, _⟩, han⟩ := C.mem j x hx
  rw [han] at hb
  obtain ⟨e, he, hbe, h⟩ := (before_bit hp m).1 hb
  have hle := hr p hp e he hbe
  rcases h with rfl | ⟨h1, h2⟩
  · exact hle
  · exact I.anc m (e.on + 1) e.on (Nat.lt_succ_self _) hle h2
/-- The frame agrees with the run where the operation looks. -/
theorem Inv.agree (I : Inv ops ord ef cE cS G0 W0 nt a0 L q G W rho E a) (C : Can P an fid rc ops ord ef cE cS) {j : Nat} {x : DI} (hx : ord[j]? = some x) (hu : ¬ Lst L x) (hr : Rdy ops L x) {m : Nat} (hm : m = j ∨ (j < m ∧ isL x.o.op = true)) (hmn : m ≤ ord.length) : Agree (cE m) E x.o.uses := by
  intro n hn
  have hjm : j ≤ m := by rcases hm with rfl | ⟨h, _⟩ <;> omega
  by_cases hw : ∃ (k : Nat) (y : DI), ord[k]? = some y ∧ y.o.dst = some n
  · obtain ⟨k, y, hy, hd⟩ := hw
    have only : ∀ (i : Nat) (z : DI), ord[i]? = some z → z.o.dst = some n → i = k := fun i z hz hzd => C.dst1 hz hy hzd hd
    rcases Nat.lt_trichotomy k j with hlt | heq | hlt
    · have hly : Lst L y := I.ancR C hx hr ((C.po hlt hy hx).flow n hd hn)
      have h1 := I.dn k y hy hly n hd
      have h2 := C.final hy hd (m := m) (by omega) hmn
      exact ⟨h1.1.trans h2.1.symm, h1.2.trans h2.2.symm⟩
    · subst heq
      have hxy : y = x := by rw [hy] at hx; exact Option.some.inj hx
      subst hxy
      obtain ⟨s1, s2⟩ := (C.so hy).own n hd hn
      have hmj : m = k := by
        rcases hm with h | ⟨_, h⟩
        · exact h
        · rw [s1] at h; simp at h
      subst hmj
      have hun := (I.un n (fun i z hz hl hzd => by
        have := only i z hz hzd
        subst this
        rw [hy] at hz; cases hz; exact hu hl)).2 (by
        rintro ⟨i, z, hz, _, hrg, hzd⟩
        have := only i z hz hzd
        subst this
        rw [hy] at hz; cases hz
        rw [isRg_isA hrg] at s2; simp at s2)
      have hk := C.keep (j := 0) n m (Nat.zero_le _) hmn (fun i z _ hi hz hzd => by
        have := only i z hz hzd; omega)
      exact ⟨hun.1.trans hk.1.symm, hun.2.trans hk.2.symm⟩
    · obtain ⟨s1, s2, s3⟩ := (C.po hlt hx hy).anti n hd hn
      have hmj : m = j := by
        rcases hm with h | ⟨_, h⟩
        · exact h
        · rw [s2] at h; simp at h
      subst hmj
      have hnl : ¬ Lst L y := fun h => hu (I.ancL C hy h s1)
      have hun := (I.un n (fun i z hz hl hzd => by
        have := only i z hz hzd
        subst this
        rw [hy] at hz; cases hz; exact hnl hl)).2 (by
        rintro ⟨i, z, hz, _, hrg, hzd⟩
        have := only i z hz hzd
        subst this
        rw [hy] at hz; cases hz
        rw [isRg_isA hrg] at s3; simp at s3)
      have hk := C.keep (j := 0) n m (Nat.zero_le _) hmn (fun i z _ hi hz hzd => by
        have := only i z hz hzd; omega)
      exact ⟨hun.1.trans hk.1.symm, hun.2.trans hk.2.symm⟩
  · have none : ∀ (i : Nat) (z : DI), ord[i]? = some z → z.o.dst ≠ some n := fun i z hz hzd => hw ⟨i, z, hz, hzd⟩
    have hun := (I.un n (fun i z hz _ => none i z hz)).2 (by rintro ⟨i, z, hz, _, _, hzd⟩; exact none i z hz hzd)
    have hk := C.keep (j := 0) n m (Nat.zero_le _) hmn (fun i z _ _ hz => none i z hz)
    exact ⟨hun.1.trans hk.1.symm, hun.2.trans hk.2.symm⟩
theorem Inv.rows (I : Inv ops ord ef cE cS G0 W0 nt a0 L q G W rho E a) {m : Nat} (hr : (cE m).r = (cE q).r) {us : List Nat} (hag : Agree (cE m) E us) : RowsAgree (cE m) E us := by
  intro n hn t off hp
  rw [hr]
  exact I.rw t (I.pp n t off ((hag n hn).2.trans hp))
/-- One more is listed. -/
theorem lst_set {i : Nat} (hi : i < L.size) {k : Nat} : (L.setIfInBounds i true).getD k false = true ↔ k = i ∨ L.getD k false = true := by
  simp only [Array.getD_eq_getD_getElem?, Array.getElem?_setIfInBounds]
  by_cases h : i = k
  · subst h; simp [hi]
  · simp [h, Ne.symm h]
theorem pendR_set (C : Can P an fid rc ops ord ef cE cS) {j : Nat} {x : DI} (hx : ord[j]? = some x) (hi : x.i < L.size) {t : Nat} : pendR ord (L.setIfInBounds x.i true) t ↔ pendR ord L t ∧ ¬ (isRg x.o.op = true ∧ x.o.dst = some t) := by
  constructor
  · rintro ⟨k, y, hy, hl, hrg, hd⟩
    have hl' : ¬ (y.i = x.i ∨ Lst L y) := fun h => hl ((lst_set hi).2 h)
    refine ⟨⟨k, y, hy, fun h => hl' (.inr h), hrg, hd⟩, ?_⟩
    rintro ⟨_, hd'⟩
    have := C.dst1 hy hx hd hd'
    subst this
    rw [hx] at hy; cases hy
    exact hl' (.inl rfl)
  · rintro ⟨⟨k, y, hy, hl, hrg, hd⟩, hn⟩
    refine ⟨k, y, hy, fun h => ?_, hrg, hd⟩
    rcases (lst_set hi).1 h with h | h
    · have := C.same hy hx h
      subst this
      rw [hx] at hy; cases hy
      exact hn ⟨hrg, hd⟩
    · exact hl h
end
end Go.Ab
