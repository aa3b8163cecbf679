/- A block that was told ahead of its making. -/
import Derived.Test.YtmikgopohkbbfaaS32
namespace Go.Ab
open Go.RowKit (Below)
section
variable {P : Program} {an : An} {fid : FuncId} {G0 : Gh} {W0 : World} {G G' : Gh} {W : World} {S S' : St} {rho : Nat → Nat} {E E' : Env} {a : Act} {nt : Nat} {r : Rs}
/-- A private block becomes an object's, or a row's. -/
def Gh.give (G : Gh) (c o : Nat) (w : Own) (sz len : Nat) : Gh :=
  { G with kind := fun b j => if b = c then w else G.kind b j, mu := fun b => if b = o then c else G.mu b, al := fun b => if b = o then (c, 0) else G.al b, asz := fun b => if b = o then sz else G.asz b, alen := fun b => if b = o then len else G.alen b, pend := fun b => if b = o then false else G.pend b }
/-- What was told of it. -/
def Told (G : Gh) (W : World) (o : Nat) (w : Own) (sz len : Nat) (us : List Value) : Prop :=
  (w = .obj o ∧ ∃ cs, G.pc o = (some cs, none) ∧ VRels G W cs us) ∨ (w = .arr o ∧ 0 < sz ∧ ∃ xs, G.pc o = (none, some (sz, xs)) ∧ xs.length = len ∧ (∀ x ∈ xs, x.cells.length = sz) ∧ VRels G W (flat xs) us)
theorem give_rel (h : ARel G0 W0 G W rho E a nt) (hs : SRel G W S) {o : Nat} {w : Own} {sz len : Nat} {us : List Value} (hp : G.pend o = true) (h0 : G0.next ≤ o) (ht : Told G W o w sz len us) (h1 : ∀ u ∈ us, u.oneCell' = true) (e : TypeId) :
    let G' := (G.newK W.heap.size (fun _ => .pr)).give W.heap.size o w sz len; let W' := W.alloc (.cells us.toArray e)
    ARel G0 W0 G' W' rho E a nt ∧ SRel G' W' S ∧ VExt G W G' W' := by
  intro G' W'
  have hx : Ext G W (G.newK W.heap.size (fun _ => .pr)) W' := ext_alloc hs (.cells us.toArray e) (newK_old G W (fun _ => .pr)) (newK_keeps G _ _)
  have hsz : W'.heap.size = W.heap.size + 1 := by show (W.heap.push _).size = _; simp
  have hkind : ∀ b j, G'.kind b j = if b = W.heap.size then w else G.kind b j := by
    intro b j
    simp only [G', Gh.give, Gh.newK]
    split <;> rfl
  have hold : ∀ b j, b < W.heap.size → G'.kind b j = G.kind b j := fun b j hb => by rw [hkind, if_neg (by omega)]
  have hwn : w ≠ .no ∧ w ≠ .fz ∧ w ≠ .pr := by
    rcases ht with ⟨rfl, _⟩ | ⟨rfl, _⟩ <;> simp
  have hpo := hs.pc o hp
  have hne : ∀ b, G.pend b = false → b ≠ o := by rintro b hb rfl; rw [hp] at hb; simp at hb
  have hv : VExt G W G' W' :=
    { fz := fun c j hk => by
        have hc := hs.fresh c j (by rw [hk]; simp)
        exact ⟨(hold c j hc).trans hk, fun u hu => by rw [at_alloc hc]; exact hu⟩
      next := Nat.le_refl _
      mu := fun b _ hb => by simp [G', Gh.give, Gh.newK, hne b hb]
      al := fun b _ hb => by simp [G', Gh.give, Gh.newK, hne b hb]
      asz := fun b _ hb => by simp [G', Gh.give, Gh.newK, hne b hb]
      alen := fun b _ hb => by simp [G', Gh.give, Gh.newK, hne b hb]
      ta := fun _ _ => rfl
      pend := fun b _ hb => by simp [G', Gh.give, Gh.newK, hne b hb, hb]
      base := rfl
      below := hx.below }
  have hown : ∀ {w' : Own} {c' o' : Nat} {us' : List Value}, w' ≠ .no → Owns G W w' c' o' us' → Owns G' W' w' c' o' us' := by
    intro w' c' o' us' hw ho j u hu
    obtain ⟨k1, k2, k3, k4⟩ := ho j u hu
    have hc := hs.fresh c' (o' + j) (by rw [k1]; exact hw)
    exact ⟨(hold _ _ hc).trans k1, by rw [at_alloc hc]; exact k2, by rw [frz_alloc hc]; exact k3, k4⟩
  have hnew : Owns G' W' w W.heap.size 0 us := by
    intro j u hu
    rw [Nat.zero_add]
    exact ⟨by rw [hkind, if_pos rfl], by rw [at_new]; exact hu, frz_new W us _ j, h1 u (List.mem_of_getElem? hu)⟩
  refine ⟨?_, ?_, hv⟩
  · refine ⟨?_, h.f0, h.size, h.defers, ?_, h.p, ?_, h.inj⟩
    · refine { toVExt := h.e0.toVExt.trans hv, pr := fun c j hk => ?_, pend' := fun b hb => ?_, pc' := fun b hb => ?_ }
      · obtain ⟨k1, k2, k3⟩ := h.e0.pr c j hk
        have hc := hs.fresh c j (by rw [k1]; simp)
        exact ⟨(hold c j hc).trans k1, (at_alloc hc).trans k2, (frz_alloc hc).trans k3⟩
      · have : b ≠ o := by omega
        simp only [G', Gh.give, Gh.newK, if_neg this]
        exact h.e0.pend' b hb
      · exact h.e0.pc' b hb
    · intro n v hn
      obtain ⟨u, hu, hr⟩ := h.t n v hn
      exact ⟨u, hu, hr.mono hv⟩
    · intro t cs hr
      obtain ⟨k1, k2, us', k3, k4⟩ := h.r t cs hr
      exact ⟨k1, by rw [hsz]; omega, us', VRels.mono hv k3, hown (by simp) k4⟩
  · exact
    { next := hs.next
      objs := fun b cs hb => by
        obtain ⟨k1, k2⟩ := hs.objs b cs hb
        refine ⟨k1, fun hpb => ?_⟩
        by_cases hbo : b = o
        · subst hbo
          rcases ht with ⟨rfl, cs', hpc, hvr⟩ | ⟨rfl, _, xs, hpc, _⟩
          · have : S.objs.get b = some cs' := by rw [hpo.2.1, hpc]
            rw [this] at hb
            cases hb
            refine ⟨us, VRels.mono hv hvr, ?_⟩
            have : G'.mu b = W.heap.size := by simp [G', Gh.give]
            rw [this]; exact hnew
          · have : S.objs.get b = none := by rw [hpo.2.1, hpc]
            rw [this] at hb; simp at hb
        · have hpb' : G.pend b = false := by simpa [G', Gh.give, Gh.newK, hbo] using hpb
          obtain ⟨us', k3, k4⟩ := k2 hpb'
          refine ⟨us', VRels.mono hv k3, ?_⟩
          have : G'.mu b = G.mu b := by simp [G', Gh.give, Gh.newK, hbo]
          rw [this]; exact hown (by simp) k4
      arrs := fun b sz' xs' hb => by
        obtain ⟨k1, k2, k3, k4⟩ := hs.arrs b sz' xs' hb
        refine ⟨k1, k2, k3, fun hpb => ?_⟩
        by_cases hbo : b = o
        · subst hbo
          rcases ht with ⟨rfl, cs', hpc, hvr⟩ | ⟨rfl, hsz0, xs, hpc, hl, hel, hvr⟩
          · have : S.arrs.get b = none := by rw [hpo.2.2, hpc]
            rw [this] at hb; simp at hb
          · have : S.arrs.get b = some (sz, xs) := by rw [hpo.2.2, hpc]
            rw [this] at hb
            cases hb
            refine ⟨by simp [G', Gh.give], by simp [G', Gh.give, hl], us, VRels.mono hv hvr, ?_⟩
            have : G'.al b = (W.heap.size, 0) := by simp [G', Gh.give]
            rw [this]; exact hnew
        · have hpb' : G.pend b = false := by simpa [G', Gh.give, Gh.newK, hbo] using hpb
          obtain ⟨e1, e2, us', k5, k6⟩ := k4 hpb'
          refine ⟨by simpa [G', Gh.give, Gh.newK, hbo] using e1, by simpa [G', Gh.give, Gh.newK, hbo] using e2, us', VRels.mono hv k5, ?_⟩
          have : G'.al b = G.al b := by simp [G', Gh.give, Gh.newK, hbo]
          rw [this]; exact hown (by simp) k6
      toks := fun k hk => by
        obtain ⟨k1, k2⟩ := hs.toks k hk
        refine ⟨k1, fun j j1 j2 => ?_⟩
        obtain ⟨e1, e2, e3⟩ := k2 j j1 j2
        have hc := hs.fresh _ _ (by rw [e1]; simp)
        exact ⟨(hold _ _ hc).trans e1, (congrArg Option.isSome (at_alloc (o := .cells us.toArray e) hc)).trans e2, (frz_alloc (o := .cells us.toArray e) hc).trans e3⟩
      fresh := fun c j hk => by
        rw [hsz]
        by_cases hc : c = W.heap.size
        · omega
        · rw [hkind, if_neg hc] at hk
          have := hs.fresh c j hk; omega
      base := fun c j k1 k2 => by
        show G.base ≤ c
        by_cases hc : c = W.heap.size
        · rw [hc]; exact hs.hbase
        · rw [hkind, if_neg hc] at k1 k2
          exact hs.base c j k1 k2
      hbase := by
        show G.base ≤ _
        rw [hsz]; have := hs.hbase; omega
      pc := fun b hb => by
        have hbo : b ≠ o := by rintro rfl; simp [G', Gh.give] at hb
        have : G.pend b = true := by simpa [G', Gh.give, Gh.newK, hbo] using hb
        exact hs.pc b this }
/-- The promise is told ahead: nothing is made. -/
def Gh.tell (G : Gh) (c : Option (List AV) × Option (Nat × List AV)) : Gh := { G with pend := fun b => if b = G.next then true else G.pend b, pc := fun b => if b = G.next then c else G.pc b, next := G.next + 1 }
theorem tell_ext (hs : SRel G W S) (c : Option (List AV) × Option (Nat × List AV)) : Ext G W (G.tell c) W where
  fz _ _ h := ⟨h, fun _ h => h⟩
  next := Nat.le_succ _
  mu _ _ _ := rfl
  al _ _ _ := rfl
  asz _ _ _ := rfl
  alen _ _ _ := rfl
  ta _ _ := rfl
  pend b hb h := by simp only [Gh.tell]; rw [if_neg (by omega)]; exact h
  base := rfl
  below := Below.refl _ _
  pr _ _ h := ⟨h, rfl, rfl⟩
  pend' b hb := by simp only [Gh.tell]; rw [if_neg (by omega)]
  pc' b hb := by simp only [Gh.tell]; rw [if_neg (by omega)]
theorem tell_srel (hs : SRel G W S) (c : Option (List AV) × Option (Nat × List AV)) {S' : St} (hn : S'.next = S.next + 1) (ht : S'.toks = S.toks)
    (ho : ∀ b, S'.objs.get b = if b = S.next then c.1 else S.objs.get b) (ha : ∀ b, S'.arrs.get b = if b = S.next then c.2 else S.arrs.get b)
    (hc : ∀ sz xs, c.2 = some (sz, xs) → 0 < sz ∧ ∀ x ∈ xs, x.cells.length = sz) : SRel (G.tell c) W S' where
  next := by simp only [Gh.tell]; rw [hs.next, hn]
  objs b cs hb := by
    rw [ho] at hb
    split at hb
    · rename_i e; subst e
      exact ⟨by omega, fun hp => by simp [Gh.tell, hs.next] at hp⟩
    · rename_i hne
      obtain ⟨k1, k2⟩ := hs.objs b cs hb
      refine ⟨by omega, fun hp => ?_⟩
      have hp' : G.pend b = false := by simpa [Gh.tell, hs.next, hne] using hp
      obtain ⟨us, k3, k4⟩ := k2 hp'
      exact ⟨us, VRels.mono (tell_ext hs c).toVExt k3, k4⟩
  arrs b sz xs hb := by
    rw [ha] at hb
    split at hb
    · rename_i e; subst e
      obtain ⟨q1, q2⟩ := hc sz xs hb
      exact ⟨by omega, q1, q2, fun hp => by simp [Gh.tell, hs.next] at hp⟩
    · rename_i hne
      obtain ⟨k1, k2, k3, k4⟩ := hs.arrs b sz xs hb
      refine ⟨by omega, k2, k3, fun hp => ?_⟩
      have hp' : G.pend b = false := by simpa [Gh.tell, hs.next, hne] using hp
      obtain ⟨e1, e2, us, k5, k6⟩ := k4 hp'
      exact ⟨e1, e2, us, VRels.mono (tell_ext hs c).toVExt k5, k6⟩
  toks k hk := by
    rw [ht] at hk
    obtain ⟨k1, k2⟩ := hs.toks k hk
    exact ⟨by omega, k2⟩
  fresh := hs.fresh
  base := hs.base
  hbase := hs.hbase
  pc b hb := by
    simp only [Gh.tell] at hb ⊢
    by_cases e : b = G.next
    · rw [if_pos e]
      rw [hs.next] at e
      exact ⟨by omega, by rw [ho, if_pos e], by rw [ha, if_pos e]⟩
    · rw [if_neg e] at hb ⊢
      obtain ⟨k1, k2, k3⟩ := hs.pc b hb
      rw [hs.next] at e
      exact ⟨by omega, by rw [ho, if_neg e]; exact k2, by rw [ha, if_neg e]; exact k3⟩
end
end Go.Ab
