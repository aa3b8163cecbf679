/- Rows that change owner; appends. -/
import Derived.Test.YtmikgopohkbbfaaS5
namespace Go.Ab
open Go.RowKit (Below)
section
variable {P : Program} {an : An} {G0 : Gh} {W0 : World} {G G' : Gh} {W : World} {S S' : St} {rho : Nat → Nat} {E : Env} {a : Act} {nt : Nat}
/-- Cells of owners that go are written, or get other owners. -/
theorem ext_re (hs : SRel G W S) {dead : Own → Prop} (d1 : ¬ dead .fz) (d2 : ¬ dead .pr) {c o : Nat} {ws : List Value}
    (hw : ∀ j, j < ws.length → dead (G.kind c (o + j)) ∧ G.kind c (o + j) ≠ .no ∧ (at_ W c (o + j)).isSome = true) (hk : ∀ b j, ¬ dead (G.kind b j) → G'.kind b j = G.kind b j) (hm : Keeps G G') : Ext G W G' (W.setCells c o ws) where
  fz x y h := by
    refine ⟨(hk x y (by rw [h]; exact d1)).trans h, fun u hu => ?_⟩
    rw [at_setCells (fun j hj => (hw j hj).2.2), if_neg ?_]
    · exact hu
    · rintro ⟨rfl, h1, h2⟩
      have := (hw (y - o) (by omega)).1
      rw [show o + (y - o) = y by omega, h] at this
      exact d1 this
  next := hm.next
  mu := hm.mu
  al := hm.al
  asz := hm.asz
  alen := hm.alen
  ta := hm.ta
  pend b hb hp := (hm.pend b hb).trans hp
  base := hm.base
  below := by
    by_cases h0 : ws.length = 0
    · have : ws = [] := by simpa using h0
      subst this; exact Below.refl _ _
    · obtain ⟨k1, k2, _⟩ := hw 0 (by omega)
      have hb := hs.base c (o + 0) k2 (fun e => by rw [e] at k1; exact d1 k1)
      exact below_setCells (w := W) c hb ws o W (Below.refl _ _)
  pr x y h := by
    refine ⟨(hk x y (by rw [h]; exact d2)).trans h, ?_, frz_setCells x y⟩
    rw [at_setCells (fun j hj => (hw j hj).2.2), if_neg ?_]
    rintro ⟨rfl, h1, h2⟩
    have := (hw (y - o) (by omega)).1
    rw [show o + (y - o) = y by omega, h] at this
    exact d2 this
  pend' := hm.pend
  pc' := hm.pc
theorem Owns.keep {dead : Own → Prop} {c o : Nat} {ws : List Value} (hw : ∀ j, j < ws.length → dead (G.kind c (o + j)) ∧ G.kind c (o + j) ≠ .no ∧ (at_ W c (o + j)).isSome = true) (hk : ∀ b j, ¬ dead (G.kind b j) → G'.kind b j = G.kind b j)
    {w : Own} {c' o' : Nat} {us : List Value} (h : Owns G W w c' o' us) (hd : ¬ dead w) : Owns G' (W.setCells c o ws) w c' o' us := by
  intro j u hu
  obtain ⟨h1, h2, h3, h4⟩ := h j u hu
  refine ⟨(hk _ _ (by rw [h1]; exact hd)).trans h1, ?_, by rw [frz_setCells]; exact h3, h4⟩
  rw [at_setCells (fun j hj => (hw j hj).2.2), if_neg ?_]
  · exact h2
  · rintro ⟨rfl, h5, h6⟩
    have := (hw (o' + j - o) (by omega)).1
    rw [show o + (o' + j - o) = o' + j by omega, h1] at this
    exact hd this
theorem srel_re (hs : SRel G W S) {dead : Own → Prop} (d1 : ¬ dead .fz) (d2 : ¬ dead .pr) (d3 : ¬ dead .no) (d4 : ∀ b, ¬ dead (.obj b)) {c o : Nat} {ws : List Value}
    (hw : ∀ j, j < ws.length → dead (G.kind c (o + j)) ∧ G.kind c (o + j) ≠ .no ∧ (at_ W c (o + j)).isSome = true) (hk : ∀ b j, ¬ dead (G.kind b j) → G'.kind b j = G.kind b j) (hm : Keeps G G') (hn : G'.next = S'.next)
    (h3 : ∀ b cs, S'.objs.get b = some cs → S.objs.get b = some cs)
    (h4 : ∀ b sz xs, S'.arrs.get b = some (sz, xs) → (¬ dead (.arr b) ∧ S.arrs.get b = some (sz, xs)) ∨ (b < S'.next ∧ 0 < sz ∧ (∀ x ∈ xs, x.cells.length = sz) ∧ (G'.pend b = false → G'.asz b = sz ∧ G'.alen b = xs.length ∧ ∃ us, VRels G' (W.setCells c o ws) (flat xs) us ∧ Owns G' (W.setCells c o ws) (.arr b) (G'.al b).1 (G'.al b).2 us)))
    (h5 : ∀ k, S'.toks.get k = some () → (¬ dead (.tok k) ∧ S.toks.get k = some ()) ∨ (k < S'.next ∧ ∀ j, (G'.ta k).2.1 ≤ j → j < (G'.ta k).2.2 → G'.kind (G'.ta k).1 j = .tok k ∧ (at_ (W.setCells c o ws) (G'.ta k).1 j).isSome = true ∧ frz_ (W.setCells c o ws) (G'.ta k).1 j = false))
    (h6 : ∀ b, G'.pend b = true → b < G.next ∧ (G.pend b = true → S'.objs.get b = S.objs.get b ∧ S'.arrs.get b = S.arrs.get b)) :
    SRel G' (W.setCells c o ws) S' where
  next := hn
  objs b cs hb := by
    obtain ⟨k1, k2⟩ := hs.objs b cs (h3 b cs hb)
    have k1' : b < G.next := by rw [hs.next]; exact k1
    refine ⟨by rw [← hn]; exact Nat.lt_of_lt_of_le k1' hm.next, fun hp => ?_⟩
    rw [hm.pend b k1'] at hp
    obtain ⟨us, hv, ho⟩ := k2 hp
    exact ⟨us, VRels.mono (ext_re hs d1 d2 hw hk hm).toVExt hv, by rw [hm.mu b k1' hp]; exact ho.keep hw hk (d4 b)⟩
  arrs b sz xs hb := by
    rcases h4 b sz xs hb with ⟨hd, h⟩ | h
    · obtain ⟨k1, k2, k3, k4⟩ := hs.arrs b sz xs h
      have k1' : b < G.next := by rw [hs.next]; exact k1
      refine ⟨by rw [← hn]; exact Nat.lt_of_lt_of_le k1' hm.next, k2, k3, fun hp => ?_⟩
      rw [hm.pend b k1'] at hp
      obtain ⟨e1, e2, us, hv, ho⟩ := k4 hp
      exact ⟨(hm.asz b k1' hp).trans e1, (hm.alen b k1' hp).trans e2, us, VRels.mono (ext_re hs d1 d2 hw hk hm).toVExt hv, by rw [hm.al b k1' hp]; exact ho.keep hw hk hd⟩
    · exact h
  toks k hk' := by
    rcases h5 k hk' with ⟨hd, h⟩ | h
    · obtain ⟨k1, k2⟩ := hs.toks k h
      have k1' : k < G.next := by rw [hs.next]; exact k1
      refine ⟨by rw [← hn]; exact Nat.lt_of_lt_of_le k1' hm.next, fun j j1 j2 => ?_⟩
      rw [hm.ta k k1'] at j1 j2 ⊢
      obtain ⟨e1, e2, e3⟩ := k2 j j1 j2
      refine ⟨(hk _ _ (by rw [e1]; exact hd)).trans e1, ?_, by rw [frz_setCells]; exact e3⟩
      rw [at_setCells (fun j hj => (hw j hj).2.2)]
      split
      · rw [List.getElem?_eq_getElem (by omega)]; rfl
      · exact e2
    · exact h
  fresh x y h := by
    rw [heap_size_setCells]
    by_cases hd : dead (G.kind x y)
    · exact hs.fresh x y (fun e => by rw [e] at hd; exact d3 hd)
    · rw [hk x y hd] at h; exact hs.fresh x y h
  base x y h1 h2 := by
    rw [hm.base]
    by_cases hd : dead (G.kind x y)
    · exact hs.base x y (fun e => by rw [e] at hd; exact d3 hd) (fun e => by rw [e] at hd; exact d1 hd)
    · rw [hk x y hd] at h1 h2; exact hs.base x y h1 h2
  hbase := by rw [hm.base, heap_size_setCells]; exact hs.hbase
  pc b hb := by
    obtain ⟨k0, k1⟩ := h6 b hb
    have hb' : G.pend b = true := (hm.pend b k0).symm.trans hb
    obtain ⟨k2, k3⟩ := k1 hb'
    obtain ⟨q1, q2, q3⟩ := hs.pc b hb'
    rw [hm.pc b k0]
    exact ⟨by rw [← hn]; exact Nat.lt_of_lt_of_le k0 hm.next, k2.trans q2, k3.trans q3⟩
/-! ### What is appended -/
/-- A slice or a string, as it is read for an append or a copy. -/
def ReadsAs (P : Program) (sz : Nat) (y : Value) (n : Nat) (news : List Value) (W : World) : Prop :=
  ∀ W' : World, W'.heap = W.heap → (Builtin.lenOf y).run P W' = .ok n W' ∧ ∀ m, m ≤ n → (Builtin.firstCells sz m y).run P W' = .ok (news.take (m * sz)).toArray W'
theorem at_heap {W W' : World} (h : W'.heap = W.heap) (c j : Nat) : at_ W' c j = at_ W c j := by unfold at_ World.cell?; rw [h]
theorem Cells.heap {W W' : World} {c o : Nat} {us : List Value} (hc : Cells W c o us) (h : W'.heap = W.heap) : Cells W' c o us := fun j u hu => by rw [at_heap h]; exact hc j u hu
theorem run_firstCells' {sz m : Nat} {c o len cap : Nat} {news : List Value} (hl : m * sz ≤ news.length) (hc : Cells W c o news) :
    (Builtin.firstCells sz m (.slice (some ⟨c, o, none⟩) len cap)).run P W = .ok (news.take (m * sz)).toArray W := by
  have := run_loadCells_list (P := P) W ⟨c, o, none⟩ (news.take (m * sz)) (fun j v hv => by
    rw [Addr.add_lit]
    refine hc j v ?_
    rw [List.getElem?_take] at hv
    split at hv
    · exact hv
    · simp at hv)
  rw [List.length_take, Nat.min_eq_left hl] at this
  simpa [Builtin.firstCells] using this
theorem run_loadCells_zero (ad : Addr) : (loadCells ad 0).run P W = .ok #[] W := by simpa using run_loadCells_list (P := P) W ad [] (by simp)
theorem cont_rel (hs : SRel G W S) {y : AV} {v : Value} (hr : VRel G W y v) {ys : List AV} (hc : cont S y = some ys) {sz : Nat} (hsz : 0 < sz) (hel : ys.all (elemV sz) = true) :
    ∃ news, ReadsAs P sz v ys.length news W ∧ VRels G W (flat ys) news ∧ ∀ u ∈ news, u.oneCell' = true := by
  have hel' : ∀ x ∈ ys, x.cells.length = sz := fun x hx => by simpa [elemV] using List.all_eq_true.1 hel x hx
  cases hr with
  | nl sz0 =>
    simp [cont] at hc; subst hc
    refine ⟨[], fun W' hh => ⟨by simp [Builtin.lenOf], fun m hm => ?_⟩, .nil, by simp⟩
    obtain rfl : m = 0 := by simpa using hm
    simp [Builtin.firstCells]
  | se sz0 ad =>
    simp [cont] at hc; subst hc
    refine ⟨[], fun W' hh => ⟨by simp [Builtin.lenOf], fun m hm => ?_⟩, .nil, by simp⟩
    obtain rfl : m = 0 := by simpa using hm
    simpa [Builtin.firstCells] using run_loadCells_zero (W := W') ad
  | sl sz0 xs t c o cap us h0 he hf h1 hv hcap hnl hex hid =>
    simp [cont] at hc; subst hc
    have hul : us.length = xs.length * sz := by rw [VRels.length hv, flat_len hel']
    exact ⟨us, fun W' hh => ⟨by simp [Builtin.lenOf], fun m hm => run_firstCells' (by rw [hul]; exact Nat.mul_le_mul_right _ hm) (hf.cells.heap hh)⟩, hv, h1⟩
  | ar b off len cap cap' t ad hb hp h0 had hlen hcap hin hnl hex hid =>
    simp only [cont] at hc
    split at hc
    · rename_i sz1 xs hx
      split at hc
      · rename_i hle
        simp only [Option.some.injEq] at hc
        subst hc
        obtain ⟨_, ksz, kel, krest⟩ := hs.arrs b sz1 xs hx
        obtain ⟨e1, e2, us, kv, ko⟩ := krest hp
        by_cases hl0 : len = 0
        · subst hl0
          refine ⟨[], fun W' hh => ⟨by simp [Builtin.lenOf], fun m hm => ?_⟩, by simpa [flat] using VRels.nil, by simp⟩
          obtain rfl : m = 0 := by simpa using hm
          simpa [Builtin.firstCells] using run_loadCells_zero (W := W') ad
        · have hszeq : sz1 = sz := by
            have hm : xs[off]'(by omega) ∈ (xs.drop off).take len := by
              refine List.mem_iff_getElem.2 ⟨0, by simp; omega, by simp⟩
            have k1 := hel' _ hm
            have k2 := kel (xs[off]'(by omega)) (List.getElem_mem _)
            omega
          subst hszeq
          have had' := had.2 (by omega)
          subst had'
          have hv2 : VRels G W (flat ((xs.drop off).take len)) ((us.drop (off * sz1)).take (len * sz1)) := by
            rw [← flat_take (fun x hx => kel x (List.mem_of_mem_drop hx)), ← flat_drop kel]
            exact VRels.take _ (VRels.drop _ kv)
          have hul := VRels.length hv2
          rw [flat_len hel'] at hul
          refine ⟨_, fun W' hh => ⟨by simp [Builtin.lenOf]; omega, fun m hm => ?_⟩, hv2, mem_sub ko.one _ _⟩
          refine run_firstCells' (by rw [hul]; exact Nat.mul_le_mul_right _ hm) (Cells.heap ?_ hh)
          rw [e1]; exact ko.cells.sub _ _
      · simp at hc
    · simp at hc
  | s x =>
    simp [cont] at hc; subst hc
    by_cases hx0 : x = []
    · subst hx0
      refine ⟨[], fun W' hh => ⟨by simp [Builtin.lenOf, ByteArray.size], fun m hm => ?_⟩, by simpa [flat] using VRels.nil, by simp⟩
      obtain rfl : m = 0 := by simpa using hm
      simp [Builtin.firstCells]
    · have hs1 : sz = 1 := by
        cases x with
        | nil => exact absurd rfl hx0
        | cons b r => have := hel' (.i .u8 b.toNat) (by simp); simpa [AV.cells] using this.symm
      subst hs1
      refine ⟨x.map fun b => .int .u8 b.toNat, fun W' hh => ⟨by simp [Builtin.lenOf, ByteArray.size], fun m hm => ?_⟩, ?_, by simp [Value.oneCell']⟩
      · have hex : ((ByteArray.mk x.toArray).extract 0 m).data = (x.take m).toArray := by
          rw [ByteArray.data_extract]; simp
        simp [Builtin.firstCells, hex]
      · have : ∀ l : List UInt8, VRels G W (flat (l.map fun b => AV.i .u8 b.toNat)) (l.map fun b => Value.int .u8 b.toNat) := by
          intro l
          induction l with
          | nil => exact .nil
          | cons b r ih => exact .cons _ _ _ _ (.i _ _) ih
        exact this x
  | _ => simp [cont] at hc
end
end Go.Ab
