/- Reading and writing rows of cells. -/
import Derived.Test.YtmikgopohkbbfaaS1
namespace Go.Ab
open Go.RowKit (Below)
/-! ### Elements in a row -/
theorem flat_len {sz : Nat} : ∀ {xs : List AV}, (∀ x ∈ xs, x.cells.length = sz) → (flat xs).length = xs.length * sz
  | [], _ => by simp [flat]
  | x :: r, h => by
    have ih := flat_len (xs := r) (fun y hy => h y (by simp [hy]))
    have hx := h x (by simp)
    simp only [flat, List.flatMap_cons, List.length_append, List.length_cons] at ih ⊢
    rw [hx, ih, Nat.succ_mul]; omega
theorem flat_append (xs ys : List AV) : flat (xs ++ ys) = flat xs ++ flat ys := by simp [flat]
theorem flat_at {sz : Nat} : ∀ {xs : List AV} {j : Nat} {x : AV}, (∀ x ∈ xs, x.cells.length = sz) → xs[j]? = some x → ((flat xs).drop (j * sz)).take sz = x.cells
  | [], j, x, _, hj => by simp at hj
  | y :: r, 0, x, h, hj => by
    simp at hj; subst hj
    have hx := h y (by simp)
    simp only [flat, List.flatMap_cons, Nat.zero_mul, List.drop_zero]
    rw [List.take_append_of_le_length (by omega), List.take_of_length_le (by omega)]
  | y :: r, j + 1, x, h, hj => by
    have hy := h y (by simp)
    have ih := flat_at (xs := r) (j := j) (x := x) (fun z hz => h z (by simp [hz])) (by simpa using hj)
    simp only [flat, List.flatMap_cons] at ih ⊢
    rw [Nat.succ_mul, Nat.add_comm, ← List.drop_drop, List.drop_left' hy]
    exact ih
theorem flat_drop {sz : Nat} {xs : List AV} (h : ∀ x ∈ xs, x.cells.length = sz) (j : Nat) : (flat xs).drop (j * sz) = flat (xs.drop j) := by
  by_cases hj : j ≤ xs.length
  · rw [show flat xs = flat (xs.take j) ++ flat (xs.drop j) by rw [← flat_append, List.take_append_drop]]
    rw [List.drop_left']
    rw [flat_len (fun x hx => h x (List.mem_of_mem_take hx)), List.length_take, Nat.min_eq_left hj]
  · rw [List.drop_of_length_le (by rw [flat_len h]; exact Nat.mul_le_mul_right _ (by omega)), List.drop_of_length_le (l := xs) (by omega)]; rfl
theorem flat_take {sz : Nat} {xs : List AV} (h : ∀ x ∈ xs, x.cells.length = sz) (j : Nat) : (flat xs).take (j * sz) = flat (xs.take j) := by
  by_cases hj : j ≤ xs.length
  · rw [show flat xs = flat (xs.take j) ++ flat (xs.drop j) by rw [← flat_append, List.take_append_drop]]
    rw [List.take_left']
    rw [flat_len (fun x hx => h x (List.mem_of_mem_take hx)), List.length_take, Nat.min_eq_left hj]
  · rw [List.take_of_length_le (by rw [flat_len h]; exact Nat.mul_le_mul_right _ (by omega)), List.take_of_length_le (l := xs) (by omega)]
/-! ### Reading -/
/-- These cells lie there. -/
def Cells (W : World) (c o : Nat) (us : List Value) : Prop := ∀ j u, us[j]? = some u → at_ W c (o + j) = some u
theorem Cells.sub {W : World} {c o : Nat} {us : List Value} (h : Cells W c o us) (off n : Nat) : Cells W c (o + off) ((us.drop off).take n) := by
  intro j u hu
  rw [List.getElem?_take] at hu
  split at hu
  · rw [List.getElem?_drop] at hu
    have := h _ _ hu
    rwa [← Nat.add_assoc] at this
  · simp at hu
theorem Froz.cells {G : Gh} {W : World} {c o : Nat} {us : List Value} (h : Froz G W c o us) : Cells W c o us := fun j u hu => (h j u hu).2
theorem Owns.cells {G : Gh} {W : World} {w : Own} {c o : Nat} {us : List Value} (h : Owns G W w c o us) : Cells W c o us := fun j u hu => (h j u hu).2.1
theorem Owns.one {G : Gh} {W : World} {w : Own} {c o : Nat} {us : List Value} (h : Owns G W w c o us) : ∀ u ∈ us, u.oneCell' = true := by
  intro u hu
  obtain ⟨j, hj, rfl⟩ := List.mem_iff_getElem.1 hu
  exact (h j _ (List.getElem?_eq_getElem hj)).2.2.2
theorem mem_sub {α : Type} {l : List α} {p : α → Prop} (h : ∀ u ∈ l, p u) (a b : Nat) : ∀ u ∈ (l.drop a).take b, p u := fun u hu => h u (List.mem_of_mem_drop (List.mem_of_mem_take hu))
section
variable {an : An} {G0 : Gh} {W0 : World} {G : Gh} {W : World} {S : St} {rho : Nat → Nat} {E : Env} {a : Act} {nt : Nat}
theorem ldC_rel (h : ARel G0 W0 G W rho E a nt) (hs : SRel G W S) {n : Nat} {ad : Ad} {u : Value} {cs : List AV} (hr : AdRel G W rho E ad u) (hc : ldC E S n ad = some cs) :
    ∃ c o us, u = .pointer (some ⟨c, o, none⟩) ∧ VRels G W cs us ∧ Cells W c o us ∧ (∀ x ∈ us, x.oneCell' = true) ∧ us.length = n := by
  cases ad with
  | rg t off =>
    obtain ⟨rfl, _⟩ := hr
    simp only [ldC] at hc
    split at hc
    · rename_i ds hd
      obtain ⟨_, _, us, hv, ho⟩ := h.r t ds hd
      obtain ⟨h1, h2, h3⟩ := cut_rel hv hc
      refine ⟨_, _, _, rfl, h3, by simpa using ho.cells.sub off n, mem_sub ho.one _ _, by simp; omega⟩
    · simp at hc
  | v x =>
    change VRel G W x u at hr
    cases hr with
    | rf o off ho hp =>
      simp only [ldC] at hc
      split at hc
      · rename_i ds hd
        obtain ⟨us, hv, hw⟩ := (hs.objs o ds hd).2 hp
        obtain ⟨h1, h2, h3⟩ := cut_rel hv hc
        refine ⟨_, _, _, rfl, h3, by simpa using hw.cells.sub off n, mem_sub hw.one _ _, by simp; omega⟩
      · simp at hc
    | fz ds c o us hf h1 hv =>
      simp only [ldC] at hc
      obtain ⟨h2, h3, h4⟩ := cut_rel hv hc
      refine ⟨_, _, _, rfl, h4, by simpa using hf.cells.sub 0 n, mem_sub h1 _ _, by simp; omega⟩
    | ap b idx off hb hp =>
      simp only [ldC] at hc
      split at hc
      · rename_i sz xs hx
        split at hc
        · rename_i y hy
          obtain ⟨_, hsz, hel, hrest⟩ := hs.arrs b sz xs hx
          obtain ⟨e1, e2, us, hv, hw⟩ := hrest hp
          have hcut := flat_at hel hy
          have hv2 : VRels G W y.cells ((us.drop (idx * sz)).take sz) := by rw [← hcut]; exact VRels.take sz (VRels.drop _ hv)
          obtain ⟨h2, h3, h4⟩ := cut_rel hv2 hc
          refine ⟨_, _, _, rfl, h4, ?_, mem_sub (mem_sub hw.one _ _) _ _, by simp at h2 ⊢; omega⟩
          rw [e1]
          exact (hw.cells.sub (idx * sz) sz).sub off n
        · simp at hc
      · simp at hc
    | _ => simp [ldC] at hc
end
theorem run_isAgg {P : Program} {t : TypeId} {g : Bool} (h : cAgg P t = some g) (w : World) : (isAgg t).run P w = .ok g w := by
  unfold cAgg at h
  simp only [Option.map_eq_some_iff] at h
  obtain ⟨d, hd, h⟩ := h
  simp only [isAgg, Sem.run_bind, run_underlying hd, Result.andThen_ok]
  cases d <;> simp at h ⊢ <;> exact h
theorem run_sizeOf {P : Program} {t : TypeId} {n : Nat} (h : cSize P t = some n) (w : World) : (sizeOf t).run P w = .ok n w := by
  unfold cSize at h
  simp only [Option.map_eq_some_iff] at h
  obtain ⟨i, hi, h⟩ := h
  simp [sizeOf, typeInfo, hi, h]
theorem run_loadAt' {P : Program} {t : TypeId} {g : Bool} {n : Nat} {W : World} {c o : Nat} {us : List Value} (hg : cAgg P t = some g) (hn : cSize P t = some n) (hc : Cells W c o us) (hl : us.length = n) (h1 : g = false → us.length = 1) :
    (Instr.loadAt t (.pointer (some ⟨c, o, none⟩))).run P W = .ok (if g then .agg us.toArray else us.headD undef) W := by
  have hcl := run_loadCells_list (P := P) W ⟨c, o, none⟩ us (fun j v hv => by rw [Addr.add_lit]; exact hc j v hv)
  cases g with
  | true => simp [Instr.loadAt, Instr.sureAddr, loadVar, run_isAgg hg, run_sizeOf hn, ← hl, hcl]
  | false =>
    match us, h1 rfl with
    | [u], _ =>
      have h0 := hc 0 u (by simp)
      simp only [Nat.add_zero, at_] at h0
      simp [Instr.loadAt, Instr.sureAddr, loadVar, run_isAgg hg, h0]
/-! ### Writing -/
theorem at_setCells {W : World} {c o : Nat} {vs : List Value} (hc : ∀ j, j < vs.length → (at_ W c (o + j)).isSome = true) (x y : Nat) :
    at_ (W.setCells c o vs) x y = if x = c ∧ o ≤ y ∧ y < o + vs.length then vs[y - o]? else at_ W x y := by
  split
  · rename_i h
    obtain ⟨rfl, h1, h2⟩ := h
    have := World.cell?_setCells_in x vs o W (fun j hj => by have := hc j hj; simpa [at_] using this) (y - o) (by omega)
    rw [show o + (y - o) = y by omega] at this
    unfold at_
    rw [this, List.getElem?_eq_getElem (by omega)]
  · rename_i h
    unfold at_
    refine World.cell?_setCells_out c vs o W ⟨x, y, none⟩ (fun h1 _ => ?_)
    simp only at h1 ⊢
    subst h1
    omega
theorem frz_setCells {W : World} {c o : Nat} {vs : List Value} (x y : Nat) : frz_ (W.setCells c o vs) x y = frz_ W x y := World.frozen?_setCells c vs o W _
theorem heap_size_setCells (b : Nat) : ∀ (vs : List Value) (o : Nat) (w : World), (w.setCells b o vs).heap.size = w.heap.size
  | [], _, _ => rfl
  | v :: r, o, w => by rw [World.setCells, heap_size_setCells b r]; simp [World.setCell]
theorem below_setCells {B : Nat} {w0 w : World} (b : Nat) (hb : B ≤ b) : ∀ (vs : List Value) (o : Nat) (w : World), Below B w0 w → Below B w0 (w.setCells b o vs)
  | [], _, _, h => h
  | v :: r, o, w, h => below_setCells (w := w) b hb r (o + 1) _ (h.setCell (p := ⟨b, o, none⟩) hb v)
/-- A row of one owner is written: what is another's stays. -/
theorem Owns.other {G : Gh} {W : World} {w w' : Own} {c o : Nat} {vs : List Value} {c' o' : Nat} {us : List Value} (hc : ∀ j, j < vs.length → G.kind c (o + j) = w ∧ (at_ W c (o + j)).isSome = true)
    (h : Owns G W w' c' o' us) (hne : w' ≠ w ∨ c' ≠ c) : Owns G (W.setCells c o vs) w' c' o' us := by
  intro j u hu
  obtain ⟨h1, h2, h3, h4⟩ := h j u hu
  refine ⟨h1, ?_, by rw [frz_setCells]; exact h3, h4⟩
  rw [at_setCells (fun j hj => (hc j hj).2), if_neg ?_]
  · exact h2
  · rintro ⟨rfl, h5, h6⟩
    have := (hc (o' + j - o) (by omega)).1
    rw [show o + (o' + j - o) = o' + j by omega, h1] at this
    rcases hne with hne | hne
    · exact hne this
    · exact hne rfl
/-- The row itself. -/
theorem Owns.set {G : Gh} {W : World} {w : Own} {c o off : Nat} {us vs : List Value} (h : Owns G W w c o us) (hl : off + vs.length ≤ us.length) (h1 : ∀ v ∈ vs, v.oneCell' = true) :
    Owns G (W.setCells c (o + off) vs) w c o (us.take off ++ vs ++ us.drop (off + vs.length)) := by
  have hc : ∀ j, j < vs.length → (at_ W c (o + off + j)).isSome = true := by
    intro j hj
    have := (h (off + j) _ (List.getElem?_eq_getElem (by omega))).2.1
    rw [Nat.add_assoc, this]; rfl
  intro j u hu
  have hjl : j < us.length := by
    have := (List.getElem?_eq_some_iff.1 hu).1
    simp at this; omega
  obtain ⟨k1, k2, k3, k4⟩ := h j _ (List.getElem?_eq_getElem hjl)
  refine ⟨k1, ?_, by rw [frz_setCells]; exact k3, ?_⟩
  · rw [at_setCells hc]
    by_cases hj1 : j < off
    · rw [if_neg (by omega), k2]
      rw [List.append_assoc, List.getElem?_append_left (by simp; omega), List.getElem?_take_of_lt hj1, List.getElem?_eq_getElem hjl] at hu
      exact hu
    · by_cases hj2 : j < off + vs.length
      · rw [if_pos ⟨rfl, by omega, by omega⟩]
        rw [List.append_assoc, List.getElem?_append_right (by simp; omega), List.getElem?_append_left (by simp; omega)] at hu
        simp only [List.length_take, Nat.min_eq_left (show off ≤ us.length by omega)] at hu
        rw [show o + j - (o + off) = j - off by omega]; exact hu
      · rw [if_neg (by omega), k2]
        rw [List.append_assoc, List.getElem?_append_right (by simp; omega), List.getElem?_append_right (by simp; omega), List.getElem?_drop] at hu
        simp only [List.length_take, Nat.min_eq_left (show off ≤ us.length by omega)] at hu
        rw [show off + vs.length + (j - off - vs.length) = j by omega, List.getElem?_eq_getElem hjl] at hu
        exact hu
  · have hm := List.mem_of_getElem? hu
    rcases List.mem_append.1 hm with hm | hm
    · rcases List.mem_append.1 hm with hm | hm
      · exact h.one _ (List.mem_of_mem_take hm)
      · exact h1 _ hm
    · exact h.one _ (List.mem_of_mem_drop hm)
theorem paste_rel {G : Gh} {W : World} {cs vs : List AV} {us ws : List Value} {off : Nat} {ds : List AV} (h : VRels G W cs us) (h2 : VRels G W vs ws) (hp : paste cs off vs = some ds) :
    off + ws.length ≤ us.length ∧ VRels G W ds (us.take off ++ ws ++ us.drop (off + ws.length)) ∧ ds.length = cs.length := by
  unfold paste at hp
  split at hp
  · rename_i hle
    simp only [Option.some.injEq] at hp
    subst hp
    have l1 := VRels.length h
    have l2 := VRels.length h2
    refine ⟨by omega, ?_, by simp; omega⟩
    rw [l2]
    exact VRels.append (VRels.append (VRels.take off h) h2) (VRels.drop _ h)
  · simp at hp
end Go.Ab
