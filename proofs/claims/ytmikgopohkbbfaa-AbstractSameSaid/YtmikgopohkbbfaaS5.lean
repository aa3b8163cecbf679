/- New objects, new rows of one's own; what an append makes. -/
import Derived.Test.YtmikgopohkbbfaaS4
namespace Go.Ab
open Go.RowKit (Below)
section
variable {P : Program} {an : An} {G0 : Gh} {W0 : World} {G G' : Gh} {W : World} {S S' : St} {rho : Nat → Nat} {E : Env} {a : Act} {nt : Nat}
theorem size_alloc (W : World) (o : Obj) : (W.alloc o).heap.size = W.heap.size + 1 := by show (W.heap.push o).size = _; simp
/-- A new object. -/
def Gh.newO (G : Gh) (c : Nat) : Gh := { G with kind := fun b j => if b = c then .obj G.next else G.kind b j, mu := fun b => if b = G.next then c else G.mu b, pend := fun b => if b = G.next then false else G.pend b, next := G.next + 1 }
theorem alloc_obj (h : ARel G0 W0 G W rho E a nt) (hs : SRel G W S) {cs : List AV} {us : List Value} (hv : VRels G W cs us) (h1 : ∀ u ∈ us, u.oneCell' = true) (e : TypeId) :
    let G' := G.newO W.heap.size; let W' := W.alloc (.cells us.toArray e)
    ARel G0 W0 G' W' rho E a nt ∧ SRel G' W' { objs := S.objs.set S.next (some cs), arrs := S.arrs, toks := S.toks, next := S.next + 1 } ∧ VRel G' W' (.rf S.next 0) (.pointer (some ⟨W.heap.size, 0, none⟩)) := by
  have hk : ∀ b j, b < W.heap.size → (G.newO W.heap.size).kind b j = G.kind b j := fun b j h => by simp [Gh.newO, Nat.ne_of_lt h]
  have hm : Keeps G (G.newO W.heap.size) := ⟨by simp [Gh.newO], fun b hb _ => by simp [Gh.newO, Nat.ne_of_lt hb], fun _ _ _ => rfl, fun _ _ _ => rfl, fun _ _ _ => rfl, fun _ _ => rfl, fun b hb => by simp [Gh.newO, Nat.ne_of_lt hb], fun _ _ => rfl, rfl⟩
  have hx := ext_alloc hs (.cells us.toArray e) hk hm
  refine ⟨h.mono hx, ?_, ?_⟩
  · refine srel_alloc hs _ hk hm ?_ (by simp [Gh.newO, hs.next]) ?_ (fun b sz xs hb => .inl hb) (fun k hk => .inl hk) ?_
    · intro b j hb
      simp only [Gh.newO, if_neg (Nat.ne_of_gt hb)]
      by_cases hk : G.kind b j = .no
      · exact hk
      · exact absurd (hs.fresh b j hk) (by omega)
    · intro b cs' hb
      simp only [Mp.get_set] at hb
      split at hb
      · rename_i e'; subst e'
        simp only [Option.some.injEq] at hb; subst hb
        refine .inr ⟨by simp, fun _ => ⟨us, VRels.mono hx.toVExt hv, ?_⟩⟩
        intro j u hu
        have hjl : (G.newO W.heap.size).mu S.next = W.heap.size := by simp [Gh.newO, hs.next]
        rw [hjl, Nat.zero_add]
        exact ⟨by simp [Gh.newO, hs.next], by rw [at_new]; exact hu, frz_new W us _ j, h1 u (List.mem_of_getElem? hu)⟩
      · exact .inl hb
    · intro b hb
      simp only [Gh.newO] at hb
      split at hb
      · simp at hb
      · rename_i hne
        refine ⟨by have := (hs.pc b hb).1; rw [hs.next]; exact this, fun _ => ⟨?_, rfl⟩⟩
        rw [Mp.get_set, if_neg (by rw [← hs.next]; exact hne)]
  · have := VRel.rf (G := G.newO W.heap.size) (W := W.alloc (.cells us.toArray e)) S.next 0 (by simp [Gh.newO, hs.next]) (by simp [Gh.newO, hs.next])
    have hmu : (G.newO W.heap.size).mu S.next = W.heap.size := by simp [Gh.newO, hs.next]
    rwa [hmu] at this
/-- A new row of one's own. -/
def Gh.newA (G : Gh) (c sz len : Nat) : Gh := { G with kind := fun b j => if b = c then .arr G.next else G.kind b j, al := fun b => if b = G.next then (c, 0) else G.al b, asz := fun b => if b = G.next then sz else G.asz b, alen := fun b => if b = G.next then len else G.alen b, pend := fun b => if b = G.next then false else G.pend b, next := G.next + 1 }
theorem alloc_arr (h : ARel G0 W0 G W rho E a nt) (hs : SRel G W S) {sz : Nat} {xs : List AV} {us : List Value} (hsz : 0 < sz) (hel : ∀ x ∈ xs, x.cells.length = sz) (hv : VRels G W (flat xs) us) (h1 : ∀ u ∈ us, u.oneCell' = true) (e : TypeId) (len : Nat) (hlen : len ≤ xs.length) :
    let G' := G.newA W.heap.size sz xs.length; let W' := W.alloc (.cells us.toArray e)
    ARel G0 W0 G' W' rho E a nt ∧ SRel G' W' { objs := S.objs, arrs := S.arrs.set S.next (some (sz, xs)), toks := S.toks, next := S.next + 1 } ∧ VRel G' W' (.ar S.next 0 len xs.length .ex) (.slice (some ⟨W.heap.size, 0, none⟩) len xs.length) := by
  have hk : ∀ b j, b < W.heap.size → (G.newA W.heap.size sz xs.length).kind b j = G.kind b j := fun b j h => by simp [Gh.newA, Nat.ne_of_lt h]
  have hm : Keeps G (G.newA W.heap.size sz xs.length) := ⟨by simp [Gh.newA], fun _ _ _ => rfl, fun b hb _ => by simp [Gh.newA, Nat.ne_of_lt hb], fun b hb _ => by simp [Gh.newA, Nat.ne_of_lt hb], fun b hb _ => by simp [Gh.newA, Nat.ne_of_lt hb], fun _ _ => rfl, fun b hb => by simp [Gh.newA, Nat.ne_of_lt hb], fun _ _ => rfl, rfl⟩
  have hx := ext_alloc hs (.cells us.toArray e) hk hm
  have hal : (G.newA W.heap.size sz xs.length).al S.next = (W.heap.size, 0) := by simp [Gh.newA, hs.next]
  have hasz : (G.newA W.heap.size sz xs.length).asz S.next = sz := by simp [Gh.newA, hs.next]
  have halen : (G.newA W.heap.size sz xs.length).alen S.next = xs.length := by simp [Gh.newA, hs.next]
  have hpend : (G.newA W.heap.size sz xs.length).pend S.next = false := by simp [Gh.newA, hs.next]
  refine ⟨h.mono hx, ?_, ?_⟩
  · refine srel_alloc hs _ hk hm ?_ (by simp [Gh.newA, hs.next]) (fun b cs hb => .inl hb) ?_ (fun k hk => .inl hk) ?_
    · intro b j hb
      simp only [Gh.newA, if_neg (Nat.ne_of_gt hb)]
      by_cases hk : G.kind b j = .no
      · exact hk
      · exact absurd (hs.fresh b j hk) (by omega)
    · intro b sz' xs' hb
      simp only [Mp.get_set] at hb
      split at hb
      · rename_i e'; subst e'
        simp only [Option.some.injEq, Prod.mk.injEq] at hb
        obtain ⟨rfl, rfl⟩ := hb
        refine .inr ⟨by simp, hsz, hel, fun _ => ⟨hasz, halen, us, VRels.mono hx.toVExt hv, ?_⟩⟩
        intro j u hu
        rw [hal]
        simp only [Nat.zero_add]
        exact ⟨by simp [Gh.newA, hs.next], by rw [at_new]; exact hu, frz_new W us _ j, h1 u (List.mem_of_getElem? hu)⟩
      · exact .inl hb
    · intro b hb
      simp only [Gh.newA] at hb
      split at hb
      · simp at hb
      · rename_i hne
        refine ⟨by have := (hs.pc b hb).1; rw [hs.next]; exact this, fun _ => ⟨rfl, ?_⟩⟩
        rw [Mp.get_set, if_neg (by rw [← hs.next]; exact hne)]
  · refine .ar S.next 0 len xs.length xs.length .ex _ (by simp [Gh.newA, hs.next]) hpend (by rw [hasz]; exact hsz) ⟨rfl, fun _ => by rw [hal]; simp⟩ hlen (Nat.le_refl _) (by rw [halen]; omega) (by simp) (fun _ => rfl) (by simp)
/-- Behind a growth: the new row's cells are read (or one's own); what is left is a new token's. -/
def Gh.newG (G : Gh) (c n stop : Nat) (w : Own) (sz len : Nat) (arr : Bool) : Gh :=
  { G with kind := fun b j => if b = c then (if j < n then w else if j < stop then .tok G.next else .no) else G.kind b j
           ta := fun k => if k = G.next then (c, n, stop) else G.ta k
           al := fun b => if b = G.next + 1 then (c, 0) else G.al b, asz := fun b => if b = G.next + 1 then sz else G.asz b, alen := fun b => if b = G.next + 1 then len else G.alen b
           pend := fun b => if b = G.next ∨ b = G.next + 1 then false else G.pend b
           next := if arr then G.next + 2 else G.next + 1 }
theorem newG_keeps (G : Gh) (c n stop : Nat) (w : Own) (sz len : Nat) (arr : Bool) : Keeps G (G.newG c n stop w sz len arr) := by
  refine ⟨by simp only [Gh.newG]; split <;> omega, fun _ _ _ => rfl, fun b hb _ => ?_, fun b hb _ => ?_, fun b hb _ => ?_, fun b hb => ?_, fun b hb => ?_, fun _ _ => rfl, rfl⟩
  · simp only [Gh.newG]; rw [if_neg (by omega)]
  · simp only [Gh.newG]; rw [if_neg (by omega)]
  · simp only [Gh.newG]; rw [if_neg (by omega)]
  · simp only [Gh.newG]; rw [if_neg (by omega)]
  · simp only [Gh.newG]; rw [if_neg (by omega)]
theorem unTok_get {S : St} {t : Tk} {k : Nat} (h : (unTok S t).get k = some ()) : S.toks.get k = some () ∧ t ≠ .id k := by
  unfold unTok at h
  split at h
  · rename_i k'
    rw [Mp.get_set] at h
    split at h
    · simp at h
    · rename_i hne; exact ⟨h, by simp; exact fun e => hne e.symm⟩
  · rename_i hno
    exact ⟨h, hno k⟩
/-- The growth of a slice that is read. -/
theorem alloc_grown (h : ARel G0 W0 G W rho E a nt) (hs : SRel G W S) {sz : Nat} {zs : List AV} {us rest : List Value} (hsz : 0 < sz) (hel : ∀ x ∈ zs, x.cells.length = sz) (hv : VRels G W (flat zs) us) (h1 : ∀ u ∈ us, u.oneCell' = true) (e : TypeId) (cap : Nat) (hrest : (us ++ rest).length = cap * sz) (hcap : zs.length ≤ cap) (arr : Bool) (drop : Tk) (S1 : St) (hS1o : S1.objs = S.objs) (hS1n : S1.next = S.next) (hS1t : S1.toks = S.toks) (hS1a : ∀ b v, S1.arrs.get b = some v → S.arrs.get b = some v) (hS1p : ∀ b, G.pend b = true → S1.arrs.get b = S.arrs.get b) :
    ∃ G', ARel G0 W0 G' (W.alloc (.cells (us ++ rest).toArray e)) rho E a nt ∧ SRel G' (W.alloc (.cells (us ++ rest).toArray e)) (grown S1 arr sz zs drop).2 ∧ VRel G' (W.alloc (.cells (us ++ rest).toArray e)) (grown S1 arr sz zs drop).1 (.slice (some ⟨W.heap.size, 0, none⟩) zs.length cap) := by
  have hul : us.length = zs.length * sz := by rw [VRels.length hv, flat_len hel]
  have hnx := hs.next
  obtain ⟨w, hw⟩ : ∃ w : Own, w = if arr then .arr (G.next + 1) else .fz := ⟨_, rfl⟩
  have hk : ∀ b j, b < W.heap.size → (G.newG W.heap.size us.length (cap * sz) w sz zs.length arr).kind b j = G.kind b j := fun b j h => by simp [Gh.newG, Nat.ne_of_lt h]
  have hm := newG_keeps G W.heap.size us.length (cap * sz) w sz zs.length arr
  have hx := ext_alloc hs (.cells (us ++ rest).toArray e) hk hm
  have hnew : ∀ b j, W.heap.size < b → (G.newG W.heap.size us.length (cap * sz) w sz zs.length arr).kind b j = .no := by
    intro b j hb
    simp only [Gh.newG, if_neg (Nat.ne_of_gt hb)]
    by_cases hk : G.kind b j = .no
    · exact hk
    · exact absurd (hs.fresh b j hk) (by omega)
  have hcell : ∀ j u, us[j]? = some u → (G.newG W.heap.size us.length (cap * sz) w sz zs.length arr).kind W.heap.size j = w ∧ at_ (W.alloc (.cells (us ++ rest).toArray e)) W.heap.size j = some u ∧ frz_ (W.alloc (.cells (us ++ rest).toArray e)) W.heap.size j = false ∧ u.oneCell' = true := by
    intro j u hu
    have hj := (List.getElem?_eq_some_iff.1 hu).1
    refine ⟨by simp [Gh.newG, hj], ?_, frz_new W _ _ j, h1 u (List.mem_of_getElem? hu)⟩
    rw [at_new, List.getElem?_append_left hj]; exact hu
  have htok : ∀ j, us.length ≤ j → j < cap * sz → (G.newG W.heap.size us.length (cap * sz) w sz zs.length arr).kind W.heap.size j = .tok S.next ∧ (at_ (W.alloc (.cells (us ++ rest).toArray e)) W.heap.size j).isSome = true ∧ frz_ (W.alloc (.cells (us ++ rest).toArray e)) W.heap.size j = false := by
    intro j j1 j2
    refine ⟨by simp [Gh.newG, Nat.not_lt.2 j1, j2, hnx], ?_, frz_new W _ _ j⟩
    rw [at_new, List.getElem?_eq_getElem (by omega)]; rfl
  refine ⟨_, h.mono hx, ?_, ?_⟩
  · refine srel_alloc hs _ hk hm hnew ?_ ?_ ?_ ?_ ?_
    · cases arr <;> simp [grown, Gh.newG, hS1n, hnx]
    · intro b cs hb
      left
      cases arr <;> simpa [grown, hS1o] using hb
    · intro b sz' xs' hb
      cases arr with
      | false => left; exact hS1a _ _ (by simpa [grown] using hb)
      | true =>
        simp only [grown, if_true, Mp.get_set] at hb
        split at hb
        · rename_i e'; subst e'
          simp only [Option.some.injEq, Prod.mk.injEq] at hb
          obtain ⟨rfl, rfl⟩ := hb
          refine .inr ⟨by simp [grown], hsz, hel, fun _ => ⟨by simp [Gh.newG, hS1n, hnx], by simp [Gh.newG, hS1n, hnx], us, VRels.mono hx.toVExt hv, ?_⟩⟩
          intro j u hu
          have hal : (G.newG W.heap.size us.length (cap * sz) w sz zs.length true).al (S1.next + 1) = (W.heap.size, 0) := by simp [Gh.newG, hS1n, hnx]
          rw [hal]
          simp only [Nat.zero_add]
          obtain ⟨k1, k2, k3, k4⟩ := hcell j u hu
          exact ⟨by rw [k1, hw]; simp [hS1n, hnx], k2, k3, k4⟩
        · left; exact hS1a _ _ hb
    · intro k hk'
      have hk'' : ((unTok S1 drop).set S1.next (some ())).get k = some () := by cases arr <;> simpa [grown] using hk'
      rw [Mp.get_set] at hk''
      split at hk''
      · rename_i e'; subst e'
        right
        refine ⟨by cases arr <;> simp [grown], ?_⟩
        have hta : (G.newG W.heap.size us.length (cap * sz) w sz zs.length arr).ta S1.next = (W.heap.size, us.length, cap * sz) := by simp [Gh.newG, hS1n, hnx]
        rw [hta]
        intro j j1 j2
        rw [hS1n]
        exact htok j j1 j2
      · left
        have := (unTok_get hk'').1
        rwa [hS1t] at this
    · intro b hb
      simp only [Gh.newG] at hb
      split at hb
      · simp at hb
      · rename_i hne
        refine ⟨by have := (hs.pc b hb).1; rw [hs.next]; exact this, fun _ => ⟨?_, ?_⟩⟩
        · cases arr <;> simp [grown, hS1o]
        · cases arr with
          | false => simpa [grown] using hS1p b hb
          | true =>
            simp only [grown, if_true, Mp.get_set]
            rw [if_neg (by rw [hS1n, ← hnx]; omega)]
            exact hS1p b hb
  · cases arr with
    | false =>
      have hta : (G.newG W.heap.size us.length (cap * sz) w sz zs.length false).ta S1.next = (W.heap.size, us.length, cap * sz) := by simp [Gh.newG, hS1n, hnx]
      refine .sl sz zs (.id S1.next) W.heap.size 0 cap us hsz hel ?_ h1 (VRels.mono hx.toVExt hv) hcap (by simp) (by simp) ?_
      · intro j u hu
        obtain ⟨k1, k2, _, _⟩ := hcell j u hu
        simp only [Nat.zero_add]
        exact ⟨by rw [k1, hw]; simp, k2⟩
      · intro k hk
        simp only [Tk.id.injEq] at hk
        subst hk
        refine ⟨by simp [Gh.newG, hS1n, hnx], fun _ => ?_⟩
        rw [hta, hul]; simp
    | true =>
      have hal : (G.newG W.heap.size us.length (cap * sz) w sz zs.length true).al (S1.next + 1) = (W.heap.size, 0) := by simp [Gh.newG, hS1n, hnx]
      have hasz : (G.newG W.heap.size us.length (cap * sz) w sz zs.length true).asz (S1.next + 1) = sz := by simp [Gh.newG, hS1n, hnx]
      have halen : (G.newG W.heap.size us.length (cap * sz) w sz zs.length true).alen (S1.next + 1) = zs.length := by simp [Gh.newG, hS1n, hnx]
      have hta : (G.newG W.heap.size us.length (cap * sz) w sz zs.length true).ta S1.next = (W.heap.size, us.length, cap * sz) := by simp [Gh.newG, hS1n, hnx]
      refine .ar (S1.next + 1) 0 zs.length zs.length cap (.id S1.next) _ (by simp [Gh.newG, hS1n, hnx]) (by simp [Gh.newG, hS1n, hnx]) (by rw [hasz]; exact hsz) ⟨rfl, fun _ => by rw [hal]; simp⟩ (Nat.le_refl _) hcap (by rw [halen]; omega) (by simp) (by simp) ?_
      intro k hk
      simp only [Tk.id.injEq] at hk
      subst hk
      refine ⟨by simp [Gh.newG, hS1n, hnx], fun _ => ?_⟩
      rw [hta, hal, halen, hasz, hul]; simp
end
end Go.Ab
