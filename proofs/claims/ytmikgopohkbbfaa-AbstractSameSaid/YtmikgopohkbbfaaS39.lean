/- A region that draws its order comes to what the machine of values comes to. -/
import Derived.Test.YtmikgopohkbbfaaS38
namespace Go.Ab
open Go.RowKit (Below)
section
variable {P : Program} {an : An} {fid : FuncId} {rc : Rec} {ops : Array Oper} {ord : List DI} {ef : DI → Bool} {cE : Nat → Env} {cS : Nat → St} {G0 : Gh} {W0 : World} {nt a0 : Nat}
variable {L : Array Bool} {q : Nat} {G : Gh} {W : World} {rho : Nat → Nat} {E : Env} {a : Act} {Q : Exit → Act → World → Prop}
theorem cOper_inv {p : Oper} {o : AOper} (hc : cOper P an fid ops p = some o) (hnt : ((P.funcs[fid]?).map (·.ntmps)).getD 0 = nt) : cOp P an fid p = some o.op ∧ cGuard ops p.guard = some o.guard ∧ p.dst = o.dst ∧ ∀ d, o.dst = some d → d < nt := by
  simp only [cOper, Option.bind_eq_some_iff] at hc
  obtain ⟨op, hop, g, hgd, hc⟩ := hc
  split at hc
  case isFalse => simp at hc
  rename_i hdst
  simp only [Option.some.injEq] at hc
  subst hc
  refine ⟨hop, hgd, rfl, fun x hx => ?_⟩
  simp only at hx
  rw [hx] at hdst
  simp only [dstOk, decide_eq_true_eq] at hdst
  rw [← hnt]; exact hdst
/-- A place on the heap that was told ahead is made. -/
theorem heap_step (hg : Globs an G0 W0) (hnt : ((P.funcs[fid]?).map (·.ntmps)).getD 0 = nt) (C : Can P an fid rc ops ord ef cE cS) (F : Front ord ef cE cS a0) (I : Inv ops ord ef cE cS G0 W0 nt a0 L q G W rho E a)
    {j : Nat} {x : DI} (hx : ord[j]? = some x) (hu : ¬ Lst L x) (hr : Rdy ops L x) {p : Oper} (hp : ops[x.i]? = some p) (hc : cOper P an fid ops p = some x.o) (hA : isA x.o.op = true) (hrg : isRg x.o.op = false) (he : ef x = false) (hjn : j < ord.length)
    {N : Act → World → Prop} (hN : ∀ G' W' rho' E' a', Inv ops ord ef cE cS G0 W0 nt a0 (L.setIfInBounds x.i true) q G' W' rho' E' a' → N a' W') : wpOp P ops Q x.i N a W := by
  obtain ⟨hop, hgd, hdst, hdlt⟩ := cOper_inv hc hnt
  obtain ⟨hgn, hds⟩ := (C.so hx).plain hA
  obtain ⟨d, hd⟩ := Option.isSome_iff_exists.1 hds
  obtain ⟨⟨k1, v, k2⟩, k3⟩ := I.hp j x hx hu hA hrg he
  have hag := I.agree C hx hu hr (m := j) (.inl rfl) (by omega)
  have hag' : Agree (cE j) E (usesO (opO x.o.op)) := fun n hn => hag n (by simp [AOper.uses, hn])
  have hv : heapV E (cS j).next x.o.op = some (v, G.pc (cS j).next) := (heapV_ag hag').trans k2
  obtain ⟨u, W', G', e1, e2, e3, e4, e5, e6⟩ := heap_made hg I.a I.s hop hv k1 rfl k3
  have hxi : x.i < L.size := by
    rw [I.size]; exact (Array.getElem?_eq_some_iff.1 hp).1
  have hw : Region.wanted p (yielded ops a.tmps) = true := wants_rel I.a hgd (by rw [hgn]; rfl)
  -- the run's own value
  have hfin : (cE ord.length).t.get d = some v ∧ (cE ord.length).p.get d = none := by
    obtain ⟨r, u', h1, _, _, _, h5, _⟩ := C.out hx
    have hf := C.final hx hd (m := j + 1) (by omega) (by omega)
    obtain ⟨q1, q2⟩ := h5 d hd
    have hrv : r = .val v := by
      rcases h1 with ⟨hw, _⟩ | ⟨_, hst, _⟩
      · rw [hgn] at hw; simp [wants] at hw
      · have hn : ∀ f as, x.o.op ≠ .call f as := by intro f as e; rw [e] at hA; simp [isA] at hA
        rw [stepX_O hn, stepO_heap hA hrg, k2] at hst
        simp only [Option.bind_some, Option.some.injEq, Prod.mk.injEq] at hst
        exact hst.1.symm
    subst hrv
    exact ⟨hf.1.symm.trans q1, hf.2.symm.trans q2⟩
  unfold wpOp
  rw [hp]
  simp only [hw, if_true]
  left
  unfold Oper.wp
  rw [e1, Oper.upon_value, hdst, hd]
  have hpend : ∀ t, pendR ord (L.setIfInBounds x.i true) t ↔ pendR ord L t := fun t => by
    rw [pendR_set C hx hxi, hrg]; simp
  have hu' : ∀ {k : Nat} {y : DI}, ord[k]? = some y → Lst L y → k ≠ j := by
    rintro k y hy hl rfl
    rw [hx] at hy; cases hy; exact hu hl
  have setT : ∀ n, n ≠ d → (E.setV d v).t.get n = E.t.get n ∧ (E.setV d v).p.get n = E.p.get n := fun n hn => by
    simp [Env.setV, Mp.get_set, unp_get, hn]
  have setD : (E.setV d v).t.get d = some v ∧ (E.setV d v).p.get d = none := by simp [Env.setV, Mp.get_set, unp_get]
  refine hN G' W' rho (E.setV d v) _ ⟨setV_rel e3 (hdlt d hd) e2, e4, by simp [I.size], ?_, I.qa, I.qn, ?_, ?_, ?_, ?_, ?_, ?_, ?_, ?_⟩
  · intro i pp hpp hl e he hb
    rw [lst_set hxi] at hl ⊢
    rcases hl with rfl | hl
    · exact .inr (hr pp hpp e he hb)
    · exact .inr (I.cl i pp hpp hl e he hb)
  · intro k y hy hey
    rw [I.ph k y hy hey]
    refine ⟨fun h => (lst_set hxi).2 (.inr h), fun h => ?_⟩
    rcases (lst_set hxi).1 h with h | h
    · have := C.same hy hx h
      subst this
      rw [hx] at hy; cases hy
      rw [he] at hey; simp at hey
    · exact h
  · intro k y hy hl d' hd'
    rcases (lst_set hxi).1 hl with h | h
    · have := C.same hy hx h
      subst this
      rw [hx] at hy; cases hy
      rw [hd] at hd'; cases hd'
      exact ⟨setD.1.trans hfin.1.symm, setD.2.trans hfin.2.symm⟩
    · have hne : d' ≠ d := by
        rintro rfl
        exact hu' hy h (C.dst1 hy hx hd' hd)
      obtain ⟨q1, q2⟩ := setT d' hne
      obtain ⟨q3, q4⟩ := I.dn k y hy h d' hd'
      exact ⟨q1.trans q3, q2.trans q4⟩
  · intro n hn
    have hne : n ≠ d := by
      rintro rfl
      exact hn j x hx ((lst_set hxi).2 (.inl rfl)) hd
    obtain ⟨q1, q2⟩ := setT n hne
    rw [hpend, q1, q2]
    exact I.un n (fun k y hy hl => hn k y hy ((lst_set hxi).2 (.inr hl)))
  · intro t ht; rw [hpend] at ht; exact I.rw t ht
  · intro t ht; rw [hpend] at ht; exact I.rp t ht
  · intro n t off hpn
    rw [hpend]
    by_cases hn : n = d
    · subst hn; rw [setD.2] at hpn; simp at hpn
    · rw [(setT n hn).2] at hpn; exact I.pp n t off hpn
  · intro k y hy hl
    exact I.rq k y hy (fun h => hl ((lst_set hxi).2 (.inr h)))
  · intro k y hy hl hAy hry hey
    have hl' : ¬ (y.i = x.i ∨ Lst L y) := fun h => hl ((lst_set hxi).2 h)
    obtain ⟨⟨p1, w, p2⟩, p3⟩ := I.hp k y hy (fun h => hl' (.inr h)) hAy hry hey
    have hne : (cS k).next ≠ (cS j).next := by
      rcases Nat.lt_trichotomy k j with hlt | heq | hlt
      · have := F.ap k j y x hlt hy hx hAy hry hey hA hrg he; omega
      · subst heq
        rw [hx] at hy; cases hy
        exact absurd (.inl rfl) hl'
      · have := F.ap j k x y hlt hx hy hA hrg he hAy hry hey; omega
    exact ⟨⟨(e5 _ hne).trans p1, w, by rw [e6]; exact p2⟩, p3⟩
theorem Out.free {o : AOper} {E : Env} {S1 S' : St} {r : Rs} {u : Ru} (h : Out rc o E S1 r u S') (hc : isC o.op = false) (ha : isA o.op = false) (hl : isL o.op = false) (S2 : St) : Out rc o E S2 r u S2 := by
  obtain ⟨rfl, _⟩ := h.pure hc ha
  rcases h with ⟨hw, h1, h2, _⟩ | ⟨hw, hx, hok⟩
  · exact .inl ⟨hw, h1, h2, rfl⟩
  · exact .inr ⟨hw, stepX_free hc ha hl hx, ⟨hok.st, hok.nw, hok.rg, hok.adr, fun _ _ => ⟨rfl, rfl⟩, hok.keep⟩⟩
theorem Out.rg {o : AOper} {E : Env} {S1 S' : St} {r : Rs} {u : Ru} (h : Out rc o E S1 r u S') (hrg : isRg o.op = true) (S2 : St) : Out rc o E S2 r u S2 := by
  rcases h with ⟨hw, h1, h2, _⟩ | ⟨hw, hx, hok⟩
  · exact .inl ⟨hw, h1, h2, rfl⟩
  · refine .inr ⟨hw, ?_, ⟨hok.st, hok.nw, hok.rg, hok.adr, fun _ ha => by rw [isRg_isA hrg] at ha; simp at ha, hok.keep⟩⟩
    cases hop : o.op <;> rw [hop] at hrg hx <;> simp [isRg] at hrg
    case new m z =>
      subst hrg
      simp only [stepX, stepO, stepOp] at hx ⊢
      split at hx
      · simp at hx
      · simp only [Option.some.injEq, Prod.mk.injEq] at hx
        obtain ⟨h1, h2, _⟩ := hx
        simp [*]
    case box m n y =>
      subst hrg
      simp only [stepX, stepO, stepOp] at hx ⊢
      obtain ⟨v, hv, hx⟩ := oE_some hx
      rw [hv]
      simp only [oE]
      split at hx
      · simp at hx
      · rename_i hcond
        split at hx
        · simp at hx
        · rename_i hg
          simp only [Option.some.injEq, Prod.mk.injEq] at hx
          obtain ⟨h1, h2, _⟩ := hx
          rw [← h1, ← h2]
/-- What only looks, looked at what it would look at now. -/
theorem look_at (C : Can P an fid rc ops ord ef cE cS) (F : Front ord ef cE cS a0) (I : Inv ops ord ef cE cS G0 W0 nt a0 L q G W rho E a) {j : Nat} {x : DI} (hx : ord[j]? = some x) (hu : ¬ Lst L x) (hr : Rdy ops L x) (he : ef x = false) (hA : isA x.o.op = false) (hl : isL x.o.op = true) (hjn : j < ord.length) :
    ∃ m, m ≤ ord.length ∧ cS m = cS q ∧ (cE m).r = (cE q).r ∧ (m = j ∨ (j < m ∧ again (cE m) (cS m) x.o = true)) := by
  by_cases hjq : j < q
  · obtain ⟨b, h1, h2, h3⟩ := last_pos (fun k => ∃ y, ord[k]? = some y ∧ (ef y = true ∨ (isA y.o.op = true ∧ ef y = false))) q
    have hno : ∀ m, b ≤ m → ∀ (k : Nat) (y : DI), m ≤ k → k < q → ord[k]? = some y → ef y = false ∧ isA y.o.op = false := by
      intro m hbm k y hk hkq hy
      have hnp : ¬ (ef y = true ∨ (isA y.o.op = true ∧ ef y = false)) := fun h => by
        have := h2 k hkq ⟨y, hy, h⟩; omega
      cases hey : ef y with
      | true => exact absurd (.inl hey) hnp
      | false =>
        refine ⟨rfl, ?_⟩
        cases hay : isA y.o.op with
        | false => rfl
        | true => exact absurd (.inr ⟨hay, hey⟩) hnp
    by_cases hbj : b ≤ j
    · obtain ⟨s1, s2⟩ := C.still (j := j) q (by omega) I.qn (hno j hbj)
      exact ⟨j, by omega, s1.symm, s2.symm, .inl rfl⟩
    · obtain ⟨s1, s2⟩ := C.still (j := b) q h1 I.qn (hno b (Nat.le_refl _))
      refine ⟨b, by have := I.qn; omega, s1.symm, s2.symm, .inr ⟨by omega, ?_⟩⟩
      rcases h3 with rfl | ⟨k, rfl, y, hy, hk⟩
      · omega
      · have hjk : j ≠ k := by
          rintro rfl
          rw [hx] at hy; cases hy
          rcases hk with hk | ⟨hk, _⟩
          · rw [he] at hk; simp at hk
          · rw [hA] at hk; simp at hk
        rcases hk with hk | ⟨hk, hk'⟩
        · refine C.chk1 j k x y (by omega) hx hy hk hl ?_
          cases hb : y.an.testBit x.i with
          | false => rfl
          | true => exact absurd (I.ancL C hy ((I.ph k y hy hk).1 (by omega)) hb) hu
        · exact C.chk2 j k x y (by omega) hx hy hk' hk hl
  · obtain ⟨b, h1, h2, h3⟩ := last_pos (fun k => ∃ y, ord[k]? = some y ∧ ef y = true) j
    obtain ⟨s1, s2⟩ := C.still (j := q) j (by omega) (by omega) (fun k y hk hkj hy => by
      have hey : ef y = false := by
        cases hey : ef y with
        | false => rfl
        | true =>
          exfalso
          have hkb := h2 k hkj ⟨y, hy, hey⟩
          rcases h3 with rfl | ⟨k', rfl, z, hz, hez⟩
          · omega
          · have ht := C.tight k' j x z hz hx (by omega) hez he (fun m h4 h5 w hw => by
              cases hw' : ef w with
              | false => rfl
              | true => have := h2 m h5 ⟨w, hw, hw'⟩; omega)
            have hlz : Lst L z := I.ancR C hx hr ht
            have := (I.ph k' z hz hez).2 hlz
            omega
      refine ⟨hey, ?_⟩
      cases hay : isA y.o.op with
      | false => rfl
      | true => have := F.all k y hy hay hey; have := I.qa; omega)
    exact ⟨j, by omega, s1, s2, .inl rfl⟩
theorem sim_step (hrc : RecOk P an rc) (hg : Globs an G0 W0) (hnt : ((P.funcs[fid]?).map (·.ntmps)).getD 0 = nt) (C : Can P an fid rc ops ord ef cE cS) (F : Front ord ef cE cS a0) (I : Inv ops ord ef cE cS G0 W0 nt a0 L q G W rho E a)
    {j : Nat} {x : DI} (hx : ord[j]? = some x) (hu : ¬ Lst L x) (hr : Rdy ops L x)
    {N : Act → World → Prop} (hN : ∀ q' G' W' rho' E' a', Inv ops ord ef cE cS G0 W0 nt a0 (L.setIfInBounds x.i true) q' G' W' rho' E' a' → N a' W') : wpOp P ops Q x.i N a W := by
  obtain ⟨⟨p, hp, hc⟩, _⟩ := C.mem j x hx
  have hjn : j < ord.length := (List.getElem?_eq_some_iff.1 hx).1
  obtain ⟨r, u, h1, h2, h3, h4, h5, h6, h7⟩ := C.out hx
  have hag := I.agree C hx hu hr (m := j) (.inl rfl) (by omega)
  have hagF : ∀ {m : Nat}, Agree (cE m) E x.o.uses → Agree (cE m) (fresh1 x.o E) x.o.uses := fun h => h
  have hgF : isRg x.o.op = true → (fresh1 x.o E).g.any (fun p => p.2 == x.o.dst.getD 0) = false := by
    intro hrg
    simp only [fresh1, hrg, if_true]
    rw [List.any_eq_false]
    intro z hz
    have := (List.mem_filter.1 hz).2
    simpa using this
  have hT : ∀ d, x.o.dst = some d → (cE ord.length).t.get d = rsT r ∧ (cE ord.length).p.get d = rsP r := by
    intro d hd
    have hf := C.final hx hd (m := j + 1) (by omega) (by omega)
    obtain ⟨q1, q2⟩ := h5 d hd
    exact ⟨hf.1.symm.trans q1, hf.2.symm.trans q2⟩
  have hnw : isRg x.o.op = true → ∀ t, x.o.dst = some t → ∃ cs, u = .nw t cs := by
    intro hrg t ht
    have hgn := ((C.so hx).plain (isRg_isA hrg)).1
    rcases h1 with ⟨hw, _⟩ | ⟨_, _, hok⟩
    · rw [hgn] at hw; simp [wants] at hw
    · obtain ⟨cs, hcs⟩ := hok.rg hrg
      rw [ht] at hcs
      exact ⟨cs, hcs⟩
  have hstU : ∀ t cs, u = .st t cs → ¬ pendR ord L t := by
    rintro t cs rfl
    rcases h1 with ⟨_, _, h, _⟩ | ⟨_, _, hok⟩
    · simp at h
    · obtain ⟨n, hn, off, hpn⟩ := hok.st t cs rfl
      exact I.pp n t off ((hag n (by simp [AOper.uses, hn])).2.trans hpn)
  have notx : ∀ {k : Nat} {y : DI}, ord[k]? = some y → y.i ≠ x.i → ∀ {d : Nat}, y.o.dst = some d → x.o.dst ≠ some d := by
    intro k y hy hne d hd hd'
    have := C.dst1 hy hx hd hd'
    subst this
    rw [hx] at hy; cases hy
    exact hne rfl
  cases he : ef x with
  | true =>
    have hqj : q ≤ j := by
      rcases Nat.lt_or_ge j q with h | h
      · exact absurd ((I.ph j x hx he).1 h) hu
      · exact h
    obtain ⟨s1, s2⟩ := C.still (j := q) j hqj (by omega) (fun k y hk hkj hy => by
      have hey : ef y = false := by
        cases hey : ef y with
        | false => rfl
        | true =>
          have hly : Lst L y := I.ancR C hx hr ((C.po hkj hy hx).ee hey he)
          have := (I.ph k y hy hey).2 hly
          omega
      refine ⟨hey, ?_⟩
      cases hay : isA y.o.op with
      | false => rfl
      | true => have := F.all k y hy hay hey; have := I.qa; omega)
    have hout := h2 (fresh1 x.o E) (hagF hag) (fun _ => I.rows s2 hag) hgF
    rw [s1] at hout
    refine core hrc hg hnt C I hx hu hr hp hc hout (by have := I.qa; omega) (by omega) ⟨_, _, h3⟩ hT ?_ ?_ ?_ (hN (j + 1))
    · intro k y hy hey
      constructor
      · intro hk
        rcases Nat.lt_or_ge k j with hlt | hge
        · exact .inr (I.ancR C hx hr ((C.po hlt hy hx).ee hey he))
        · obtain rfl : k = j := by omega
          rw [hx] at hy; cases hy; exact .inl rfl
      · rintro (h | h)
        · have := C.same hy hx h; omega
        · have := (I.ph k y hy hey).2 h; omega
    · intro t ht
      rw [h6 t]
      have hsame : ¬ pendR ord L t → E.r.get t = (cE j).r.get t := fun h => by rw [I.rw t h, s2]
      cases hq : u with
      | id =>
        rcases ht with ht | ⟨hrg, ht⟩
        · exact hsame ht
        · obtain ⟨cs, hcs⟩ := hnw hrg t ht
          rw [hq] at hcs; simp at hcs
      | st t' cs =>
        simp only [Ru.get]
        split
        · rfl
        · rcases ht with ht | ⟨hrg, ht⟩
          · exact hsame ht
          · obtain ⟨cs, hcs⟩ := hnw hrg t ht
            rw [hq] at hcs; simp at hcs
      | nw t' cs =>
        simp only [Ru.get]
        split
        · rfl
        · rename_i hne
          rcases ht with ht | ⟨hrg, ht⟩
          · exact hsame ht
          · have := h7 t' cs hq
            rw [ht] at this; simp at this; exact absurd this hne
    · intro k y hy hly hne hrg hey d hd
      rw [h6 d]
      have hpd : pendR ord L d := ⟨k, y, hy, hly, hrg, hd⟩
      cases hq : u with
      | id => simp only [Ru.get]; rw [s2]
      | st t' cs =>
        simp only [Ru.get]
        rw [if_neg (by rintro rfl; exact hstU _ _ hq hpd), s2]
      | nw t' cs =>
        simp only [Ru.get]
        rw [if_neg (by rintro rfl; exact notx hy hne hd (h7 _ _ hq)), s2]
  | false =>
    have hph : ∀ (k : Nat) (y : DI), ord[k]? = some y → ef y = true → (k < q ↔ y.i = x.i ∨ Lst L y) := by
      intro k y hy hey
      rw [I.ph k y hy hey]
      refine ⟨.inr, ?_⟩
      rintro (h | h)
      · have := C.same hy hx h
        subst this
        rw [hx] at hy; cases hy
        rw [he] at hey; simp at hey
      · exact h
    cases hA : isA x.o.op with
    | true =>
      cases hrg : isRg x.o.op with
      | false => exact heap_step hg hnt C F I hx hu hr hp hc hA hrg he hjn (hN q)
      | true =>
        have hw : isW x.o.op = false := by cases hop : x.o.op <;> rw [hop] at hrg <;> simp [isRg] at hrg <;> rfl
        have hout := (h2 (fresh1 x.o E) (hagF hag) (fun h => by rw [hw] at h; simp at h) hgF).rg hrg (cS q)
        refine core hrc hg hnt C I hx hu hr hp hc hout I.qa I.qn ⟨_, _, h3⟩ hT hph ?_ (fun _ _ _ _ _ _ _ _ _ => rfl) (hN q)
        intro t ht
        obtain ⟨d, hd⟩ := Option.isSome_iff_exists.1 ((C.so hx).plain hA).2
        obtain ⟨cs, hcs⟩ := hnw hrg d hd
        subst hcs
        by_cases htd : t = d
        · subst htd
          rw [I.rq j x hx hu hrg he t hd, h6 t]
          simp [Ru.get]
        · simp only [Ru.get, htd, if_false]
          rcases ht with ht | ⟨_, ht⟩
          · exact I.rw t ht
          · rw [hd] at ht; simp at ht; exact absurd ht.symm htd
    | false =>
      have hC : isC x.o.op = false := by
        cases h : isC x.o.op with
        | false => rfl
        | true => rw [C.eC hx h] at he; simp at he
      have hrg : isRg x.o.op = false := by
        cases h : isRg x.o.op with
        | false => rfl
        | true => rw [isRg_isA h] at hA; simp at hA
      obtain ⟨hui, hSS⟩ := h1.pure hC hA
      subst hui
      have hw : isW x.o.op = isL x.o.op := by cases hop : x.o.op <;> first | rfl | (rw [hop] at hC; simp [isC] at hC)
      have hrw : ∀ t, ¬ pendR ord L t ∨ (isRg x.o.op = true ∧ x.o.dst = some t) → Ru.id.get E t = (cE q).r.get t := by
        rintro t (ht | ⟨h, _⟩)
        · exact I.rw t ht
        · rw [hrg] at h; simp at h
      cases hl : isL x.o.op with
      | false =>
        have hout := (h2 (fresh1 x.o E) (hagF hag) (fun h => by rw [hw, hl] at h; simp at h) hgF).free hC hA hl (cS q)
        exact core hrc hg hnt C I hx hu hr hp hc hout I.qa I.qn ⟨_, _, h3⟩ hT hph hrw (fun _ _ _ _ _ _ _ _ _ => rfl) (hN q)
      | true =>
        obtain ⟨m, hm, m1, m2, m3⟩ := look_at C F I hx hu hr he hA hl hjn
        have hkE : keepsE x.o.op = true := by
          cases hop : x.o.op <;> rw [hop] at hl <;> simp [isL] at hl <;> rfl
        have hagm := I.agree C hx hu hr (m := m) (by rcases m3 with h | ⟨h, _⟩; exact .inl h; exact .inr ⟨h, hl⟩) hm
        have hom : Out rc x.o (cE m) (cS m) r .id (cS m) := by
          rcases m3 with rfl | ⟨hjm, hag2⟩
          · rw [hSS] at h1; exact h1
          · have hwm : wants (cE m) x.o.guard = wants (cE j) x.o.guard := (ag_wants hagm).symm.trans (ag_wants hag)
            rcases again_out (rc := rc) hag2 hC hA with hw | ⟨v, d, hd, hv, ho⟩
            · rw [hwm] at hw
              rcases h1 with ⟨_, rfl, _⟩ | ⟨hw', _⟩
              · exact .inl ⟨hwm.trans hw, rfl, rfl, rfl⟩
              · rw [hw] at hw'; simp at hw'
            · have hf := (C.final hx hd hjm hm).1
              have : rsT r = some v := (hT d hd).1.symm.trans (hf.symm.trans hv)
              have hrv : r = .val v := by cases r <;> simp [rsT] at this; rw [this]
              subst hrv
              exact ho
        have hout := hom.moves hkE rfl (fresh1 x.o E) (hagF hagm) (fun _ => I.rows m2 hagm) (fun h => by rw [hrg] at h; simp at h)
        rw [m1] at hout
        exact core hrc hg hnt C I hx hu hr hp hc hout I.qa I.qn ⟨_, _, h3⟩ hT hph hrw (fun _ _ _ _ _ _ _ _ _ => rfl) (hN q)
end
end Go.Ab
