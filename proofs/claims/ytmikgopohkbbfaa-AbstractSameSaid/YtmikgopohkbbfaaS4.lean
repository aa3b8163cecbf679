/- New blocks. -/
import Derived.Test.YtmikgopohkbbfaaS3
namespace Go.Ab
open Go.RowKit (Below)
section
variable {P : Program} {an : An} {G0 : Gh} {W0 : World} {G G' : Gh} {W : World} {S S' : St} {rho : Nat → Nat} {E : Env} {a : Act} {nt : Nat}
theorem done_val (h : ARel G0 W0 G W rho E a nt) (hs : SRel G W S) {s : Sem Next} {u : Value} {v : AV} (hr : s.run P W = .ok (.value u) W) (hv : VRel G W v u) : Done P G0 W0 nt a s W (.val v) E S :=
  ⟨u, W, G, rho, .inl hr, hv, h, hs⟩
/-- A draw changes nothing that is read. -/
theorem ext_drew (G : Gh) (W : World) : Ext G W G W.drew where
  fz _ _ h := ⟨h, fun _ h => h⟩
  next := Nat.le_refl _
  mu _ _ _ := rfl
  al _ _ _ := rfl
  asz _ _ _ := rfl
  alen _ _ _ := rfl
  ta _ _ := rfl
  pend _ _ h := h
  base := rfl
  below := (Below.refl _ _).drew
  pr _ _ h := ⟨h, rfl, rfl⟩
  pend' _ _ := rfl
  pc' _ _ := rfl
theorem srel_drew (hs : SRel G W S) : SRel G W.drew S where
  next := hs.next
  objs o cs h := let ⟨k1, k2⟩ := hs.objs o cs h; ⟨k1, fun hp => let ⟨us, hv, ho⟩ := k2 hp; ⟨us, VRels.mono (ext_drew G W).toVExt hv, ho⟩⟩
  arrs b sz xs h := let ⟨k1, k2, k3, k4⟩ := hs.arrs b sz xs h; ⟨k1, k2, k3, fun hp => let ⟨e1, e2, us, hv, ho⟩ := k4 hp; ⟨e1, e2, us, VRels.mono (ext_drew G W).toVExt hv, ho⟩⟩
  toks := hs.toks
  fresh := hs.fresh
  base := hs.base
  hbase := hs.hbase
  pc := hs.pc
/-- The old owners' maps. -/
structure Keeps (G G' : Gh) : Prop where
  next : G.next ≤ G'.next
  mu : ∀ b, b < G.next → G.pend b = false → G'.mu b = G.mu b
  al : ∀ b, b < G.next → G.pend b = false → G'.al b = G.al b
  asz : ∀ b, b < G.next → G.pend b = false → G'.asz b = G.asz b
  alen : ∀ b, b < G.next → G.pend b = false → G'.alen b = G.alen b
  ta : ∀ b, b < G.next → G'.ta b = G.ta b
  pend : ∀ b, b < G.next → G'.pend b = G.pend b
  pc : ∀ b, b < G.next → G'.pc b = G.pc b
  base : G'.base = G.base
theorem ext_alloc (hs : SRel G W S) (o : Obj) (hk : ∀ b j, b < W.heap.size → G'.kind b j = G.kind b j) (hm : Keeps G G') : Ext G W G' (W.alloc o) where
  fz c j h := by
    have hc := hs.fresh c j (by rw [h]; simp)
    exact ⟨(hk c j hc).trans h, fun u hu => by rw [at_alloc hc]; exact hu⟩
  next := hm.next
  mu := hm.mu
  al := hm.al
  asz := hm.asz
  alen := hm.alen
  ta := hm.ta
  pend b hb hp := (hm.pend b hb).trans hp
  base := hm.base
  below := (Below.refl _ _).alloc hs.hbase o
  pr c j h := by
    have hc := hs.fresh c j (by rw [h]; simp)
    exact ⟨(hk c j hc).trans h, at_alloc hc, frz_alloc hc⟩
  pend' := hm.pend
  pc' := hm.pc
theorem Owns.alloc {w : Own} {c o : Nat} {us : List Value} (h : Owns G W w c o us) (hc : ∀ j, j < us.length → c < W.heap.size) (ob : Obj) (hk : ∀ b j, b < W.heap.size → G'.kind b j = G.kind b j) : Owns G' (W.alloc ob) w c o us := by
  intro j u hu
  have hlt := hc j (List.getElem?_eq_some_iff.1 hu).1
  obtain ⟨h1, h2, h3, h4⟩ := h j u hu
  exact ⟨(hk _ _ hlt).trans h1, by rw [at_alloc hlt]; exact h2, by rw [frz_alloc hlt]; exact h3, h4⟩
theorem Owns.lt (hs : SRel G W S) {w : Own} {c o : Nat} {us : List Value} (h : Owns G W w c o us) (hw : w ≠ .no) : ∀ j, j < us.length → c < W.heap.size := by
  intro j hj
  have := (h j _ (List.getElem?_eq_getElem hj)).1
  exact hs.fresh c (o + j) (by rw [this]; exact hw)
/-- Behind a new block: what was there stays; what is new is told. -/
theorem srel_alloc (hs : SRel G W S) (o : Obj) (hk : ∀ b j, b < W.heap.size → G'.kind b j = G.kind b j) (hm : Keeps G G') (hnew : ∀ b j, W.heap.size < b → G'.kind b j = .no) (hn : G'.next = S'.next)
    (h3 : ∀ b cs, S'.objs.get b = some cs → S.objs.get b = some cs ∨ (b < S'.next ∧ (G'.pend b = false → ∃ us, VRels G' (W.alloc o) cs us ∧ Owns G' (W.alloc o) (.obj b) (G'.mu b) 0 us)))
    (h4 : ∀ b sz xs, S'.arrs.get b = some (sz, xs) → S.arrs.get b = some (sz, xs) ∨ (b < S'.next ∧ 0 < sz ∧ (∀ x ∈ xs, x.cells.length = sz) ∧ (G'.pend b = false → G'.asz b = sz ∧ G'.alen b = xs.length ∧ ∃ us, VRels G' (W.alloc o) (flat xs) us ∧ Owns G' (W.alloc o) (.arr b) (G'.al b).1 (G'.al b).2 us)))
    (h5 : ∀ k, S'.toks.get k = some () → S.toks.get k = some () ∨ (k < S'.next ∧ ∀ j, (G'.ta k).2.1 ≤ j → j < (G'.ta k).2.2 → G'.kind (G'.ta k).1 j = .tok k ∧ (at_ (W.alloc o) (G'.ta k).1 j).isSome = true ∧ frz_ (W.alloc o) (G'.ta k).1 j = false))
    (h6 : ∀ b, G'.pend b = true → b < G.next ∧ (G.pend b = true → S'.objs.get b = S.objs.get b ∧ S'.arrs.get b = S.arrs.get b)) :
    SRel G' (W.alloc o) S' where
  next := hn
  objs b cs hb := by
    rcases h3 b cs hb with h | h
    · obtain ⟨k1, k2⟩ := hs.objs b cs h
      have k1' : b < G.next := by rw [hs.next]; exact k1
      refine ⟨by rw [← hn]; exact Nat.lt_of_lt_of_le k1' hm.next, fun hp => ?_⟩
      rw [hm.pend b k1'] at hp
      obtain ⟨us, hv, ho⟩ := k2 hp
      exact ⟨us, VRels.mono (ext_alloc hs o hk hm).toVExt hv, by rw [hm.mu b k1' hp]; exact ho.alloc (ho.lt hs (by simp)) o hk⟩
    · exact h
  arrs b sz xs hb := by
    rcases h4 b sz xs hb with h | h
    · obtain ⟨k1, k2, k3, k4⟩ := hs.arrs b sz xs h
      have k1' : b < G.next := by rw [hs.next]; exact k1
      refine ⟨by rw [← hn]; exact Nat.lt_of_lt_of_le k1' hm.next, k2, k3, fun hp => ?_⟩
      rw [hm.pend b k1'] at hp
      obtain ⟨e1, e2, us, hv, ho⟩ := k4 hp
      exact ⟨(hm.asz b k1' hp).trans e1, (hm.alen b k1' hp).trans e2, us, VRels.mono (ext_alloc hs o hk hm).toVExt hv, by rw [hm.al b k1' hp]; exact ho.alloc (ho.lt hs (by simp)) o hk⟩
    · exact h
  toks k hk' := by
    rcases h5 k hk' with h | h
    · obtain ⟨k1, k2⟩ := hs.toks k h
      have k1' : k < G.next := by rw [hs.next]; exact k1
      refine ⟨by rw [← hn]; exact Nat.lt_of_lt_of_le k1' hm.next, fun j j1 j2 => ?_⟩
      rw [hm.ta k k1'] at j1 j2 ⊢
      obtain ⟨e1, e2, e3⟩ := k2 j j1 j2
      have hlt := hs.fresh _ _ (by rw [e1]; simp)
      exact ⟨(hk _ _ hlt).trans e1, by rw [at_alloc hlt]; exact e2, by rw [frz_alloc hlt]; exact e3⟩
    · exact h
  fresh c j h := by
    have hsz : (W.alloc o).heap.size = W.heap.size + 1 := by show (W.heap.push o).size = _; simp
    rw [hsz]
    by_cases hc : c ≤ W.heap.size
    · omega
    · exact absurd (hnew c j (by omega)) h
  base c j h1 h2 := by
    rw [hm.base]
    by_cases hc : c < W.heap.size
    · rw [hk c j hc] at h1 h2
      exact hs.base c j h1 h2
    · exact Nat.le_trans hs.hbase (Nat.le_of_not_lt hc)
  hbase := by
    rw [hm.base]
    have hsz : (W.alloc o).heap.size = W.heap.size + 1 := by show (W.heap.push o).size = _; simp
    rw [hsz]; exact Nat.le_succ_of_le hs.hbase
  pc b hb := by
    obtain ⟨k0, k1⟩ := h6 b hb
    have hb' : G.pend b = true := (hm.pend b k0).symm.trans hb
    obtain ⟨k2, k3⟩ := k1 hb'
    obtain ⟨q1, q2, q3⟩ := hs.pc b hb'
    rw [hm.pc b k0]
    exact ⟨by rw [← hn]; exact Nat.lt_of_lt_of_le k0 hm.next, k2.trans q2, k3.trans q3⟩
/-- A new block whose cells are told by f. -/
def Gh.newK (G : Gh) (c : Nat) (f : Nat → Own) : Gh := { G with kind := fun b j => if b = c then f j else G.kind b j }
theorem newK_old (G : Gh) (W : World) (f : Nat → Own) : ∀ b j, b < W.heap.size → (G.newK W.heap.size f).kind b j = G.kind b j := fun b j h => by simp [Gh.newK, Nat.ne_of_lt h]
theorem newK_keeps (G : Gh) (c : Nat) (f : Nat → Own) : Keeps G (G.newK c f) := ⟨Nat.le_refl _, fun _ _ _ => rfl, fun _ _ _ => rfl, fun _ _ _ => rfl, fun _ _ _ => rfl, fun _ _ => rfl, fun _ _ => rfl, fun _ _ => rfl, rfl⟩
theorem newK_new (hs : SRel G W S) (f : Nat → Own) : ∀ b j, W.heap.size < b → (G.newK W.heap.size f).kind b j = .no := by
  intro b j h
  simp only [Gh.newK, if_neg (Nat.ne_of_gt h)]
  by_cases hk : G.kind b j = .no
  · exact hk
  · exact absurd (hs.fresh b j hk) (by omega)
/-- A new row that is only read. -/
theorem alloc_fz (h : ARel G0 W0 G W rho E a nt) (hs : SRel G W S) (us : List Value) (e : TypeId) (f : Nat × Nat := (0, 0)) :
    let G' := G.newK W.heap.size (fun _ => .fz); let W' := W.alloc (.cells us.toArray e f)
    Ext G W G' W' ∧ ARel G0 W0 G' W' rho E a nt ∧ SRel G' W' S ∧ Froz G' W' W.heap.size 0 us := by
  have hx := ext_alloc hs (.cells us.toArray e f) (newK_old G W (fun _ => .fz)) (newK_keeps G _ _)
  refine ⟨hx, h.mono hx, ?_, ?_⟩
  · exact srel_alloc hs _ (newK_old G W _) (newK_keeps G _ _) (newK_new hs _) hs.next (fun b cs hb => .inl hb) (fun b sz xs hb => .inl hb) (fun k hk => .inl hk) (fun b hb => ⟨by have := (hs.pc b hb).1; rw [hs.next]; exact this, fun _ => ⟨rfl, rfl⟩⟩)
  · intro j u hu
    refine ⟨by simp [Gh.newK], ?_⟩
    rw [at_new']; simpa using hu
/-- A new row of the frame. -/
theorem alloc_reg (h : ARel G0 W0 G W rho E a nt) (hs : SRel G W S) {d : Nat} {cs : List AV} {us : List Value} (hv : VRels G W cs us) (h1 : ∀ u ∈ us, u.oneCell' = true) (e : TypeId) (hg : E.g.any (fun p => p.2 == d) = false) :
    let G' := G.newK W.heap.size (fun _ => .pr); let W' := W.alloc (.cells us.toArray e); let rho' := fun t => if t = d then W.heap.size else rho t
    ARel G0 W0 G' W' rho' { t := E.t, p := E.unp d, r := E.r.set d (some cs), g := E.g } a nt ∧ SRel G' W' S := by
  have hx := ext_alloc hs (.cells us.toArray e) (newK_old G W (fun _ => .pr)) (newK_keeps G _ _)
  have hm := h.mono hx
  have hsz : (W.alloc (.cells us.toArray e)).heap.size = W.heap.size + 1 := by show (W.heap.push _).size = _; simp
  have hunp : ∀ n, (E.unp d).get n = if n = d then none else E.p.get n := by
    intro n
    unfold Env.unp
    split
    · rename_i hq
      by_cases e : n = d
      · subst e; rw [if_pos rfl]; exact hq
      · rw [if_neg e]
    · rw [Mp.get_set]
  refine ⟨⟨hm.e0, hm.f0, hm.size, hm.defers, hm.t, ?_, ?_, ?_⟩, ?_⟩
  · intro n t off hp
    simp only [hunp] at hp
    split at hp
    · simp at hp
    · rename_i hnd
      obtain ⟨k1, k2, k3⟩ := h.p n t off hp
      have htd : t ≠ d := by
        rintro rfl
        rcases k2 with k2 | k2
        · exact hnd k2
        · have := List.any_eq_false.1 hg _ k2
          simp at this
      refine ⟨by simp only [if_neg htd]; exact k1, k2, ?_⟩
      simp only [Mp.get_set, if_neg htd]; exact k3
  · intro t c ht
    simp only [Mp.get_set] at ht
    split at ht
    · rename_i e; subst e
      simp only [Option.some.injEq] at ht; subst ht
      refine ⟨by simp only [if_true]; exact h.e0.below.size, by rw [hsz]; simp, us, VRels.mono hx.toVExt hv, ?_⟩
      intro j u hu
      simp only [if_true, Nat.zero_add]
      exact ⟨by simp [Gh.newK], by rw [at_new]; exact hu, frz_new W us _ j, h1 u (List.mem_of_getElem? hu)⟩
    · rename_i hne
      obtain ⟨k0, k1, us', kv, ko⟩ := hm.r t c ht
      simp only [if_neg hne]
      exact ⟨k0, k1, us', kv, ko⟩
  · intro t t' c c' h1' h2' he
    simp only [Mp.get_set] at h1' h2'
    split at h1'
    · rename_i e1
      split at h2'
      · rename_i e2; exact e1.trans e2.symm
      · rename_i e2
        rw [if_pos e1, if_neg e2] at he
        have := (h.r t' c' h2').2.1
        omega
    · rename_i e1
      split at h2'
      · rename_i e2
        rw [if_neg e1, if_pos e2] at he
        have := (h.r t c h1').2.1
        omega
      · rename_i e2
        rw [if_neg e1, if_neg e2] at he
        exact h.inj t t' c c' h1' h2' he
  · exact srel_alloc hs _ (newK_old G W _) (newK_keeps G _ _) (newK_new hs _) hs.next (fun b cs hb => .inl hb) (fun b sz xs hb => .inl hb) (fun k hk => .inl hk) (fun b hb => ⟨by have := (hs.pc b hb).1; rw [hs.next]; exact this, fun _ => ⟨rfl, rfl⟩⟩)
end
end Go.Ab
