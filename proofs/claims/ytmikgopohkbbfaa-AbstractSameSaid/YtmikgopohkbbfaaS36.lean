/- A run in the order of one's own, from place to place. -/
import Derived.Test.YtmikgopohkbbfaaS35
namespace Go.Ab
open Go.RowKit (Below)
/-- The run, and what was asked of its order. -/
structure Can (P : Program) (an : An) (fid : FuncId) (rc : Rec) (ops : Array Oper) (ord : List DI) (ef : DI → Bool) (cE : Nat → Env) (cS : Nat → St) : Prop where
  mem : ∀ (j : Nat) (x : DI), ord[j]? = some x → (∃ p, ops[x.i]? = some p ∧ cOper P an fid ops p = some x.o) ∧ x.an = (Region.before ops).getD x.i 0
  edge : ∀ (i : Nat) (p : Oper), ops[i]? = some p → ∀ e ∈ p.after.toList, Region.binds .any e = true → e.on < ops.size
  surj : ∀ i, i < ops.size → ∃ (j : Nat) (x : DI), ord[j]? = some x ∧ x.i = i
  efo : ∀ (j : Nat) (x : DI), ord[j]? = some x → efOk ef x = true
  solo : ∀ (j : Nat) (x : DI), ord[j]? = some x → soloOk x = true
  pair : ∀ (i j : Nat) (x y : DI), i < j → ord[i]? = some x → ord[j]? = some y → pairOk ef x y = true
  tight : ∀ (e j : Nat) (x z : DI), ord[e]? = some z → ord[j]? = some x → e < j → ef z = true → ef x = false → (∀ m, e < m → m < j → ∀ (w : DI), ord[m]? = some w → ef w = false) → x.an.testBit z.i = true
  step : ∀ (j : Nat) (x : DI), ord[j]? = some x → step1 rc x.o (cE j) (cS j) = some (cE (j + 1), cS (j + 1))
  chk1 : ∀ (i j : Nat) (y x : DI), i < j → ord[i]? = some y → ord[j]? = some x → ef x = true → isL y.o.op = true → x.an.testBit y.i = false → again (cE (j + 1)) (cS (j + 1)) y.o = true
  chk2 : ∀ (i j : Nat) (y x : DI), i < j → ord[i]? = some y → ord[j]? = some x → ef x = false → isA x.o.op = true → isL y.o.op = true → again (cE (j + 1)) (cS (j + 1)) y.o = true
section
variable {P : Program} {an : An} {fid : FuncId} {rc : Rec} {ops : Array Oper}
theorem can_of {β : Type} {k : Env → St → Option β} {y : β} {d : List (AOper × List AOper)} (hd : cDr P an fid ops = some d) {E : Env} {S : St} (hr : runDr none (callE rc) d E S k = some y) :
    (P.follows .mixedOrders = true ∨ Region.departs ops = false) ∧ ∃ ord ef cE cS, Can P an fid rc ops ord ef cE cS ∧ cE 0 = E ∧ cS 0 = S ∧ k (cE ord.length) (cS ord.length) = some y := by
  unfold cDr at hd
  obtain ⟨l, hl, hd⟩ := Option.bind_eq_some_iff.1 hd
  simp only at hd
  split at hd
  case isFalse => simp at hd
  rename_i hok
  simp only [Option.some.injEq] at hd
  subst hd
  simp only [drOk, Bool.and_eq_true] at hok
  obtain ⟨⟨⟨⟨⟨⟨h1, h2⟩, h3⟩, h4⟩, h5⟩, h6⟩, h7⟩ := hok
  refine ⟨by simpa using h1, ?_⟩
  generalize hef : eff (dAll ops l) = ef at *
  generalize hord : order (dAll ops l) = ord at *
  obtain ⟨cE, cS, c1, c2, c3, c4⟩ := runDr_trace _ _ _ hr
  obtain ⟨q1, q2⟩ := chks_get (ef := ef) ord []
  rw [q1] at c4
  obtain ⟨p1, p2⟩ := pairs_get _ h6
  obtain ⟨_, t2⟩ := tight_get _ _ h7
  refine ⟨ord, ef, cE, cS, ⟨?_, ?_, ?_, ?_, p1, p2, ?_, ?_, ?_, ?_⟩, c1, c2, c4⟩
  · intro j x hx
    refine dAll_mem hl (order_mem ?_)
    rw [hord]; exact List.mem_of_getElem? hx
  · intro i p hp e he hb
    rw [Array.all_eq_true'] at h2
    have := h2 p (Array.mem_of_getElem? hp)
    rw [Array.all_eq_true'] at this
    have := this e (by simpa using he)
    rw [hb] at this
    simpa using this
  · intro i hi
    have := List.all_eq_true.1 h4 i (by simpa using hi)
    obtain ⟨x, hx, he⟩ := List.any_eq_true.1 this
    obtain ⟨j, hj⟩ := List.getElem?_of_mem hx
    exact ⟨j, x, hj, by simpa using he⟩
  · intro j x hx
    exact List.all_eq_true.1 h5 x (List.mem_of_getElem? hx)
  · exact t2
  · intro j x hx
    obtain ⟨c, hc, _⟩ := q2 j x hx
    exact (c3 j _ hc).1
  · intro i j y x hij hy hx he hl ha
    obtain ⟨c, hc, k1, _⟩ := q2 j x hx
    exact List.all_eq_true.1 (c3 j _ hc).2 _ (k1 he y (.inr ⟨i, hij, hy⟩) hl ha)
  · intro i j y x hij hy hx he hA hl
    obtain ⟨c, hc, _, k2⟩ := q2 j x hx
    exact List.all_eq_true.1 (c3 j _ hc).2 _ (k2 he hA y (.inr ⟨i, hij, hy⟩) hl)
end
section
variable {P : Program} {an : An} {fid : FuncId} {rc : Rec} {ops : Array Oper} {ord : List DI} {ef : DI → Bool} {cE : Nat → Env} {cS : Nat → St}
theorem hasDst_iff {d : Option Nat} {l : List Nat} : hasDst d l = true ↔ ∃ n, d = some n ∧ n ∈ l := by
  cases d <;> simp [hasDst]
theorem sameDst_iff {a b : Option Nat} : sameDst a b = true ↔ ∃ n, a = some n ∧ b = some n := by
  cases a <;> cases b <;> simp [sameDst]
  exact ⟨fun h => h.symm, fun h => h.symm⟩
/-- What is asked of an earlier and a later one, in words. -/
structure PairOk (ef : DI → Bool) (x y : DI) : Prop where
  ne : x.i ≠ y.i
  an : x.an.testBit y.i = false
  dst : ∀ n, x.o.dst = some n → y.o.dst = some n → False
  ee : ef x = true → ef y = true → y.an.testBit x.i = true
  anti : ∀ n, y.o.dst = some n → n ∈ x.o.uses → y.an.testBit x.i = true ∧ isL x.o.op = false ∧ isA y.o.op = false
  flow : ∀ n, x.o.dst = some n → n ∈ y.o.uses → y.an.testBit x.i = true
  front : isA y.o.op = true → ef y = false → ef x = false
theorem pairOk_iff {ef : DI → Bool} {x y : DI} (h : pairOk ef x y = true) : PairOk ef x y := by
  simp only [pairOk, Bool.and_eq_true] at h
  obtain ⟨⟨⟨⟨⟨⟨h1, h2⟩, h3⟩, h4⟩, h5⟩, h6⟩, h7⟩ := h
  refine ⟨by simpa using h1, by simpa using h2, ?_, ?_, ?_, ?_, ?_⟩
  · intro n e1 e2
    have : sameDst x.o.dst y.o.dst = true := sameDst_iff.2 ⟨n, e1, e2⟩
    rw [this] at h3; simp at h3
  · intro e1 e2; rw [e1, e2] at h4; simpa using h4
  · intro n e1 e2
    have : hasDst y.o.dst x.o.uses = true := hasDst_iff.2 ⟨n, e1, e2⟩
    rw [this] at h5; simp at h5; exact ⟨h5.1.1, h5.1.2, h5.2⟩
  · intro n e1 e2
    have : hasDst x.o.dst y.o.uses = true := hasDst_iff.2 ⟨n, e1, e2⟩
    rw [this] at h6; simpa using h6
  · intro e1 e2
    rw [e1, e2] at h7; simpa using h7
structure SoloOk (x : DI) : Prop where
  own : ∀ n, x.o.dst = some n → n ∈ x.o.uses → isL x.o.op = false ∧ isA x.o.op = false
  plain : isA x.o.op = true → x.o.guard = none ∧ x.o.dst.isSome = true
  self : x.an.testBit x.i = false
theorem soloOk_iff {x : DI} (h : soloOk x = true) : SoloOk x := by
  simp only [soloOk, Bool.and_eq_true] at h
  obtain ⟨⟨h1, h2⟩, h3⟩ := h
  refine ⟨fun n e1 e2 => ?_, fun e => ?_, by simpa using h3⟩
  · have : hasDst x.o.dst x.o.uses = true := hasDst_iff.2 ⟨n, e1, e2⟩
    rw [this] at h1; simpa using h1
  · rw [e] at h2; simpa using h2
theorem Can.po (C : Can P an fid rc ops ord ef cE cS) {i j : Nat} {x y : DI} (h : i < j) (hx : ord[i]? = some x) (hy : ord[j]? = some y) : PairOk ef x y := pairOk_iff (C.pair i j x y h hx hy)
theorem Can.so (C : Can P an fid rc ops ord ef cE cS) {j : Nat} {x : DI} (hx : ord[j]? = some x) : SoloOk x := soloOk_iff (C.solo j x hx)
theorem Can.eC (C : Can P an fid rc ops ord ef cE cS) {j : Nat} {x : DI} (hx : ord[j]? = some x) (h : isC x.o.op = true) : ef x = true := by
  have := C.efo j x hx
  simp only [efOk, Bool.and_eq_true] at this
  rw [h] at this; simpa using this.1
theorem Can.eCA (C : Can P an fid rc ops ord ef cE cS) {j : Nat} {x : DI} (hx : ord[j]? = some x) (h : ef x = true) : isC x.o.op = true ∨ isA x.o.op = true := by
  have := C.efo j x hx
  simp only [efOk, Bool.and_eq_true] at this
  rw [h] at this; simpa using this.2
theorem Can.same (C : Can P an fid rc ops ord ef cE cS) {i j : Nat} {x y : DI} (hx : ord[i]? = some x) (hy : ord[j]? = some y) (h : x.i = y.i) : i = j := by
  rcases Nat.lt_trichotomy i j with hlt | heq | hlt
  · exact absurd h (C.po hlt hx hy).ne
  · exact heq
  · exact absurd h.symm (C.po hlt hy hx).ne
theorem Can.dst1 (C : Can P an fid rc ops ord ef cE cS) {i j : Nat} {x y : DI} (hx : ord[i]? = some x) (hy : ord[j]? = some y) {n : Nat} (h1 : x.o.dst = some n) (h2 : y.o.dst = some n) : i = j := by
  rcases Nat.lt_trichotomy i j with hlt | heq | hlt
  · exact ((C.po hlt hx hy).dst n h1 h2).elim
  · exact heq
  · exact ((C.po hlt hy hx).dst n h2 h1).elim
/-- One step of the run, told. -/
theorem Can.out (C : Can P an fid rc ops ord ef cE cS) {j : Nat} {x : DI} (hx : ord[j]? = some x) : ∃ r u, Out rc x.o (cE j) (cS j) r u (cS (j + 1)) ∧ Moves rc x.o (cE j) (cS j) r u (cS (j + 1)) ∧ putO x.o ((cE j).row u) r = some (cE (j + 1)) ∧
    (∀ n, x.o.dst ≠ some n → (cE (j + 1)).t.get n = (cE j).t.get n ∧ (cE (j + 1)).p.get n = (cE j).p.get n) ∧ (∀ d, x.o.dst = some d → (cE (j + 1)).t.get d = rsT r ∧ (cE (j + 1)).p.get d = rsP r) ∧ (∀ t, (cE (j + 1)).r.get t = u.get (cE j) t) ∧ (∀ t cs, u = .nw t cs → x.o.dst = some t) := by
  obtain ⟨r, u, h1, h2, h3⟩ := out_of_step1 (C.step j x hx)
  have hrg : isRg x.o.op = true → x.o.dst.isSome = true := fun h => ((C.so hx).plain (by cases hop : x.o.op <;> rw [hop] at h <;> simp [isRg] at h <;> subst h <;> rfl)).2
  obtain ⟨k1, k2, k3, k4⟩ := out_env h1 h3 hrg
  exact ⟨r, u, h1, h2, h3, k1, k2, k3, k4⟩
theorem isRg_isA {op : Op} (h : isRg op = true) : isA op = true := by
  cases op <;> simp [isRg] at h <;> subst h <;> rfl
theorem Out.pure {o : AOper} {E : Env} {S S' : St} {r : Rs} {u : Ru} (h : Out rc o E S r u S') (hc : isC o.op = false) (ha : isA o.op = false) : u = .id ∧ S' = S := by
  rcases h with ⟨_, _, h1, h2⟩ | ⟨_, _, h⟩
  · exact ⟨h1, h2⟩
  · exact h.pure hc ha
/-- What only tells changes neither state nor rows. -/
theorem Can.still1 (C : Can P an fid rc ops ord ef cE cS) {j : Nat} {x : DI} (hx : ord[j]? = some x) (he : ef x = false) (ha : isA x.o.op = false) : cS (j + 1) = cS j ∧ (cE (j + 1)).r = (cE j).r := by
  have hc : isC x.o.op = false := by
    cases h : isC x.o.op with
    | false => rfl
    | true => rw [C.eC hx h] at he; simp at he
  obtain ⟨r, u, h1, _, h3, _⟩ := C.out hx
  obtain ⟨rfl, h⟩ := h1.pure hc ha
  exact ⟨h, (put_spec h3).1⟩
theorem Can.still (C : Can P an fid rc ops ord ef cE cS) {j : Nat} : ∀ m, j ≤ m → m ≤ ord.length → (∀ (k : Nat) (x : DI), j ≤ k → k < m → ord[k]? = some x → ef x = false ∧ isA x.o.op = false) → cS m = cS j ∧ (cE m).r = (cE j).r := by
  intro m hjm
  induction m with
  | zero =>
    intro _ _
    obtain rfl : j = 0 := by omega
    exact ⟨rfl, rfl⟩
  | succ m ih =>
    intro hm h
    by_cases hj : j = m + 1
    · subst hj; exact ⟨rfl, rfl⟩
    · obtain ⟨k1, k2⟩ := ih (by omega) (by omega) (fun k x h1 h2 hx => h k x h1 (by omega) hx)
      have hx := List.getElem?_eq_getElem (show m < ord.length by omega)
      obtain ⟨e1, e2⟩ := h m _ (by omega) (by omega) hx
      obtain ⟨q1, q2⟩ := C.still1 hx e1 e2
      exact ⟨q1.trans k1, q2.trans k2⟩
/-- What no one writes stays. -/
theorem Can.keep (C : Can P an fid rc ops ord ef cE cS) {j : Nat} (n : Nat) : ∀ m, j ≤ m → m ≤ ord.length → (∀ (k : Nat) (x : DI), j ≤ k → k < m → ord[k]? = some x → x.o.dst ≠ some n) → (cE m).t.get n = (cE j).t.get n ∧ (cE m).p.get n = (cE j).p.get n := by
  intro m hjm
  induction m with
  | zero =>
    intro _ _
    obtain rfl : j = 0 := by omega
    exact ⟨rfl, rfl⟩
  | succ m ih =>
    intro hm h
    by_cases hj : j = m + 1
    · subst hj; exact ⟨rfl, rfl⟩
    · obtain ⟨k1, k2⟩ := ih (by omega) (by omega) (fun k x h1 h2 hx => h k x h1 (by omega) hx)
      have hx := List.getElem?_eq_getElem (show m < ord.length by omega)
      obtain ⟨r, u, _, _, _, h4, _⟩ := C.out hx
      obtain ⟨q1, q2⟩ := h4 n (h m _ (by omega) (by omega) hx)
      exact ⟨q1.trans k1, q2.trans k2⟩
/-- What was written is what is had at the end. -/
theorem Can.final (C : Can P an fid rc ops ord ef cE cS) {j : Nat} {x : DI} (hx : ord[j]? = some x) {n : Nat} (hd : x.o.dst = some n) {m : Nat} (hm : j < m) (hm' : m ≤ ord.length) : (cE m).t.get n = (cE ord.length).t.get n ∧ (cE m).p.get n = (cE ord.length).p.get n := by
  have := C.keep (j := m) n ord.length hm' (Nat.le_refl _) (fun k y h1 h2 hy e => by
    have := C.dst1 hx hy hd e
    omega)
  exact ⟨this.1.symm, this.2.symm⟩
/-- Marks of places made in the frame are kept, and told. -/
theorem Can.gmono (C : Can P an fid rc ops ord ef cE cS) {j : Nat} : ∀ m, j ≤ m → m ≤ ord.length → ∀ p ∈ (cE j).g, p ∈ (cE m).g := by
  intro m hjm
  induction m with
  | zero =>
    intro _ p hp
    obtain rfl : j = 0 := by omega
    exact hp
  | succ m ih =>
    intro hm p hp
    by_cases hj : j = m + 1
    · subst hj; exact hp
    · have hx := List.getElem?_eq_getElem (show m < ord.length by omega)
      obtain ⟨r, u, _, _, h3, _⟩ := C.out hx
      refine (put_g h3).1 p ?_
      rw [row_g]
      exact ih (by omega) (by omega) p hp
theorem Can.gtold (C : Can P an fid rc ops ord ef cE cS) (h0 : ∀ n t off, (cE 0).p.get n = some (t, off) → n = t ∨ (n, t) ∈ (cE 0).g) : ∀ m, m ≤ ord.length → ∀ n t off, (cE m).p.get n = some (t, off) → n = t ∨ (n, t) ∈ (cE m).g
  | 0, _, n, t, off, hp => h0 n t off hp
  | m + 1, hm, n, t, off, hp => by
    have hx := List.getElem?_eq_getElem (show m < ord.length by omega)
    obtain ⟨r, u, _, _, h3, h4, h5, _⟩ := C.out hx
    by_cases hd : (ord[m]'(by omega)).o.dst = some n
    · rw [(h5 n hd).2] at hp
      cases r with
      | adr t' off' =>
        simp only [rsP, Option.some.injEq, Prod.mk.injEq] at hp
        obtain ⟨rfl, rfl⟩ := hp
        exact (put_g h3).2 _ _ _ hd rfl
      | _ => simp [rsP] at hp
    · rw [(h4 n hd).2] at hp
      rcases C.gtold h0 m (by omega) n t off hp with h | h
      · exact .inl h
      · exact .inr ((put_g h3).1 _ (by rw [row_g]; exact h))
end
end Go.Ab
