/- One more operation, in any order. -/
import Derived.Test.YtmikgopohkbbfaaS37
namespace Go.Ab
open Go.RowKit (Below)
section
variable {P : Program} {an : An} {fid : FuncId} {rc : Rec} {ops : Array Oper} {ord : List DI} {ef : DI → Bool} {cE : Nat → Env} {cS : Nat → St} {G0 : Gh} {W0 : World} {nt a0 : Nat}
variable {L : Array Bool} {q : Nat} {G : Gh} {W : World} {rho : Nat → Nat} {E : Env} {a : Act} {Q : Exit → Act → World → Prop}
/-- The frame, free of other names for a row that is made anew. -/
def fresh1 (o : AOper) (E : Env) : Env := { t := E.t, p := E.p, r := E.r, g := if isRg o.op then E.g.filter (fun p => p.2 != o.dst.getD 0) else E.g }
theorem core (hrc : RecOk P an rc) (hg : Globs an G0 W0) (hnt : ((P.funcs[fid]?).map (·.ntmps)).getD 0 = nt) (C : Can P an fid rc ops ord ef cE cS) (I : Inv ops ord ef cE cS G0 W0 nt a0 L q G W rho E a)
    {j : Nat} {x : DI} (hx : ord[j]? = some x) (hu : ¬ Lst L x) (hr : Rdy ops L x) {p : Oper} (hp : ops[x.i]? = some p) (hc : cOper P an fid ops p = some x.o) {r : Rs} {u : Ru} {q' : Nat}
    (hout : Out rc x.o (fresh1 x.o E) (cS q) r u (cS q')) (hqa : a0 ≤ q') (hqn : q' ≤ ord.length) (hput : ∃ E2 E2', putO x.o E2 r = some E2')
    (hT : ∀ d, x.o.dst = some d → (cE ord.length).t.get d = rsT r ∧ (cE ord.length).p.get d = rsP r)
    (hph : ∀ (k : Nat) (y : DI), ord[k]? = some y → ef y = true → (k < q' ↔ y.i = x.i ∨ Lst L y))
    (hrw : ∀ t, ¬ pendR ord L t ∨ (isRg x.o.op = true ∧ x.o.dst = some t) → u.get E t = (cE q').r.get t)
    (hrq : ∀ (k : Nat) (y : DI), ord[k]? = some y → ¬ Lst L y → y.i ≠ x.i → isRg y.o.op = true → ef y = false → ∀ d, y.o.dst = some d → (cE q').r.get d = (cE q).r.get d)
    {N : Act → World → Prop} (hN : ∀ G' W' rho' E' a', Inv ops ord ef cE cS G0 W0 nt a0 (L.setIfInBounds x.i true) q' G' W' rho' E' a' → N a' W') : wpOp P ops Q x.i N a W := by
  have hxi : x.i < L.size := by
    rw [I.size]; exact (Array.getElem?_eq_some_iff.1 hp).1
  have hrgd : isRg x.o.op = true → x.o.dst.isSome = true := fun h => ((C.so hx).plain (isRg_isA h)).2
  have hA1 : ARel G0 W0 G W rho (fresh1 x.o E) a nt := by
    refine I.a.less (fun n v h => h) (fun n t off h => ?_) (fun t cs h => h)
    obtain ⟨k1, k2, k3⟩ := I.a.p n t off h
    refine ⟨h, k3, ?_⟩
    rcases k2 with k2 | k2
    · exact .inl k2
    · right
      simp only [fresh1]
      split
      · rename_i hrg
        refine List.mem_filter.2 ⟨k2, ?_⟩
        have hs := hrgd hrg
        obtain ⟨d, hd⟩ := Option.isSome_iff_exists.1 hs
        have : t ≠ d := by
          rintro rfl
          exact I.pp n t off h ⟨j, x, hx, hu, hrg, hd⟩
        simpa [hd] using this
      · exact k2
  obtain ⟨E2, E2', hE2⟩ := hput
  obtain ⟨E', hE'⟩ := put_move hE2 ((fresh1 x.o E).row u)
  have hst := step1_of_out hout hE'
  obtain ⟨o1, o2, o3, o4⟩ := out_env hout hE' hrgd
  have hgb : Globs an (G0.rebase G) W0 := hg.mono (rebase_ext I.a).toVExt
  unfold wpOp
  rw [hp]
  simp only
  refine step_sound hrc hgb hnt hc (rebase_rel hA1) I.s hst ?_
  intro E3 S3 a' W' G' rho' h' hs' heq
  simp only [Option.some.injEq, Prod.mk.injEq] at heq
  obtain ⟨rfl, rfl⟩ := heq
  have hu' : ∀ {k : Nat} {y : DI}, ord[k]? = some y → Lst L y → k ≠ j := by
    rintro k y hy hl rfl
    rw [hx] at hy; cases hy; exact hu hl
  refine hN G' W' rho' E3 a' ?_
  refine ⟨rebase_back I.a h', hs', by simp [I.size], ?_, hqa, hqn, ?_, ?_, ?_, ?_, ?_, ?_, ?_, ?_⟩
  · intro i pp hpp hl e he hb
    rw [lst_set hxi] at hl ⊢
    rcases hl with rfl | hl
    · exact .inr (hr pp hpp e he hb)
    · exact .inr (I.cl i pp hpp hl e he hb)
  · intro k y hy he
    rw [hph k y hy he]
    exact (lst_set hxi).symm
  · intro k y hy hl d hd
    rcases (lst_set hxi).1 hl with h | h
    · have := C.same hy hx h
      subst this
      rw [hx] at hy; cases hy
      obtain ⟨k1, k2⟩ := o2 d hd
      obtain ⟨k3, k4⟩ := hT d hd
      exact ⟨k1.trans k3.symm, k2.trans k4.symm⟩
    · have hne : x.o.dst ≠ some d := fun hd' => hu' hy h (C.dst1 hy hx hd hd')
      obtain ⟨k1, k2⟩ := o1 d hne
      obtain ⟨k3, k4⟩ := I.dn k y hy h d hd
      exact ⟨k1.trans k3, k2.trans k4⟩
  · intro n hn
    have hne : x.o.dst ≠ some n := hn j x hx ((lst_set hxi).2 (.inl rfl))
    obtain ⟨k1, k2⟩ := o1 n hne
    obtain ⟨k3, k4⟩ := I.un n (fun k y hy hl => hn k y hy ((lst_set hxi).2 (.inr hl)))
    rw [pendR_set C hx hxi, k1, k2]
    exact ⟨fun h => k3 h.1, fun h => k4 (fun hp => h ⟨hp, fun hq => hne hq.2⟩)⟩
  · intro t ht
    rw [o3 t, show u.get (fresh1 x.o E) t = u.get E t by cases u <;> rfl]
    refine hrw t ?_
    rw [pendR_set C hx hxi] at ht
    by_cases hq : isRg x.o.op = true ∧ x.o.dst = some t
    · exact .inr hq
    · exact .inl (fun h => ht ⟨h, hq⟩)
  · intro t ht
    rw [pendR_set C hx hxi] at ht
    have h0 := I.rp t ht.1
    rw [o3 t]
    rcases hout with ⟨_, _, rfl, _⟩ | ⟨_, _, hok⟩
    · exact h0
    · cases hq : u with
      | id => exact h0
      | st t' cs =>
        simp only [Ru.get]
        obtain ⟨n, _, off, hpn⟩ := hok.st t' cs hq
        rw [if_neg]
        · exact h0
        · rintro rfl; exact I.pp n t off hpn ht.1
      | nw t' cs =>
        simp only [Ru.get]
        rw [if_neg]
        · exact h0
        · rintro rfl; exact ht.2 ⟨(hok.nw _ _ hq).2.1, o4 _ _ hq⟩
  · intro n t off hpn
    rw [pendR_set C hx hxi]
    rintro ⟨hpe, hne⟩
    by_cases hd : x.o.dst = some n
    · rw [(o2 n hd).2] at hpn
      cases r with
      | adr t' off' =>
        simp only [rsP, Option.some.injEq, Prod.mk.injEq] at hpn
        obtain ⟨rfl, rfl⟩ := hpn
        rcases hout with ⟨_, h, _⟩ | ⟨_, _, hok⟩
        · simp at h
        · rcases hok.adr _ _ rfl with ⟨_, n', _, off', hp'⟩ | ⟨cs, hq⟩
          · exact I.pp n' _ off' hp' hpe
          · exact hne ⟨(hok.nw _ _ hq).2.1, o4 _ _ hq⟩
      | _ => simp [rsP] at hpn
    · rw [(o1 n hd).2] at hpn
      exact I.pp n t off hpn hpe
  · intro k y hy hl hrg he d hd
    have hl' : ¬ (y.i = x.i ∨ Lst L y) := fun h => hl ((lst_set hxi).2 h)
    rw [hrq k y hy (fun h => hl' (.inr h)) (fun h => hl' (.inl h)) hrg he d hd]
    exact I.rq k y hy (fun h => hl' (.inr h)) hrg he d hd
  · intro k y hy hl hA hrg he
    have hl' : ¬ (y.i = x.i ∨ Lst L y) := fun h => hl ((lst_set hxi).2 h)
    obtain ⟨⟨k1, v, k2⟩, k3⟩ := I.hp k y hy (fun h => hl' (.inr h)) hA hrg he
    have hlt : (cS k).next < (G0.rebase G).next := by
      show _ < G.next
      rw [I.s.next]; exact (I.s.pc _ k1).1
    refine ⟨⟨(h'.e0.pend' _ hlt).trans k1, v, ?_⟩, k3⟩
    rw [h'.e0.pc' _ hlt]; exact k2
end
end Go.Ab
