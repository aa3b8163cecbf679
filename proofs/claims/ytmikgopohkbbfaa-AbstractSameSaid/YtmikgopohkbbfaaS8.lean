/- An append is what the machine of values says. -/
import Derived.Test.YtmikgopohkbbfaaS7
namespace Go.Ab
open Go.RowKit (Below)
section
variable {P : Program} {an : An} {G0 : Gh} {W0 : World} {G G' : Gh} {W : World} {S S' : St} {rho : Nat → Nat} {E : Env} {a : Act} {nt : Nat}
theorem mul_lt {n m sz : Nat} (h : n < m) (hs : 0 < sz) : n * sz < m * sz := Nat.mul_lt_mul_of_pos_right h hs
/-- A growth, whatever was there. -/
theorem grow_done (h : ARel G0 W0 G W rho E a nt) (hs : SRel G W S) {t0 t1 ty e : TypeId} {d1 : TypeDesc} {sz by_ : Nat} (h0 : P.underlying t0 = some (.slice e)) (h1 : P.underlying t1 = some d1) (hd1 : (∃ e1, d1 = .slice e1) ∨ d1 = .string)
    (hn : cSize P e = some sz) (hb : cBytes P e = some by_) (hz : cZeroOk P e = true) (hsz : 0 < sz) (hb0 : 0 < by_)
    {base : Option Addr} {cap : Nat} {v : Value} {xs ys : List AV} {olds news : List Value} (hx : ReadsAs P sz (.slice base xs.length cap) xs.length olds W) (hxv : VRels G W (flat xs) olds) (hx1 : ∀ u ∈ olds, u.oneCell' = true) (hxe : ∀ x ∈ xs, x.cells.length = sz)
    (hy : ReadsAs P sz v ys.length news W) (hyv : VRels G W (flat ys) news) (hy1 : ∀ u ∈ news, u.oneCell' = true) (hye : ∀ x ∈ ys, x.cells.length = sz)
    (hgrow : cap < xs.length + ys.length) (hroom : room (xs.length + ys.length) by_ = true) (arr : Bool) (drop : Tk) (S1 : St) (hS1o : S1.objs = S.objs) (hS1n : S1.next = S.next) (hS1t : S1.toks = S.toks) (hS1a : ∀ b v, S1.arrs.get b = some v → S.arrs.get b = some v) (hS1p : ∀ b, G.pend b = true → S1.arrs.get b = S.arrs.get b)
    {s : Sem Next} (hrun : ∀ w W', (Builtin.append_ #[t0, t1] ty #[.slice base xs.length cap, v]).run P W = .ok w W' → s.run P W = .ok (.value w) W') :
    Done P G0 W0 nt a s W (.val (grown S1 arr sz (xs ++ ys) drop).1) E (grown S1 arr sz (xs ++ ys) drop).2 := by
  obtain ⟨i, z, hi, hsz', hby, hzz, hzc⟩ := info_of hn hb hz
  have hlo : olds.length = xs.length * sz := by rw [VRels.length hxv, flat_len hxe]
  have hl : news.length = ys.length * sz := by rw [VRels.length hyv, flat_len hye]
  have hr := run_app_grow (ty := ty) h0 h1 hd1 hi hsz' hby hzz hx hlo hy hl hgrow (by simpa [room] using hroom) hb0
  have hge := grownCap_ge W (xs.length + ys.length) cap e
  have hdr : ARel G0 W0 G W.drew rho E a nt := h.mono (ext_drew G W)
  have hel : ∀ x ∈ xs ++ ys, x.cells.length = sz := fun x hx => by
    rcases List.mem_append.1 hx with hx | hx
    · exact hxe x hx
    · exact hye x hx
  obtain ⟨G', k1, k2, k3⟩ := alloc_grown hdr (srel_drew hs) (zs := xs ++ ys) (us := olds ++ news) (rest := (Builtin.zeroCells z.cells (grownCap W (xs.length + ys.length) cap e - (xs.length + ys.length))).toList) hsz hel
    (by rw [flat_append]; exact VRels.append (VRels.mono (ext_drew G W).toVExt hxv) (VRels.mono (ext_drew G W).toVExt hyv)) (fun u hu => by
      rcases List.mem_append.1 hu with hu | hu
      · exact hx1 u hu
      · exact hy1 u hu) e (grownCap W (xs.length + ys.length) cap e)
    (by
      have := size_zeroCells z.cells (grownCap W (xs.length + ys.length) cap e - (xs.length + ys.length))
      simp only [List.length_append, Array.length_toList, this, hzc, hlo, hl]
      rw [← Nat.add_mul, ← Nat.add_mul]; congr 1; omega) (by simpa using hge) arr drop S1 hS1o hS1n hS1t hS1a hS1p
  refine ⟨_, _, G', rho, .inl (hrun _ _ hr), ?_, k1, k2⟩
  have : (W.drew).heap.size = W.heap.size := rfl
  rw [this, List.length_append] at k3
  exact k3
theorem readsAs_self {c o n cap sz : Nat} {us : List Value} (hc : Cells W c o us) (hl : us.length = n * sz) : ReadsAs P sz (.slice (some ⟨c, o, none⟩) n cap) n us W :=
  fun W' hh => ⟨by simp [Builtin.lenOf], fun m hm => run_firstCells' (by rw [hl]; exact Nat.mul_le_mul_right _ hm) (hc.heap hh)⟩
theorem readsAs_nil {ad : Option Addr} {cap sz : Nat} : ReadsAs P sz (.slice ad 0 cap) 0 [] W :=
  fun W' _ => ⟨by simp [Builtin.lenOf], fun m hm => by
    obtain rfl : m = 0 := by omega
    cases ad with
    | none => simp [Builtin.firstCells]
    | some ad => simpa [Builtin.firstCells] using run_loadCells_zero (W := W') ad⟩
/-- Room behind a slice that is read. -/
theorem room_sl (h : ARel G0 W0 G W rho E a nt) (hs : SRel G W S) {sz : Nat} {xs ys : List AV} {k c o cap : Nat} {us news : List Value} (hsz : 0 < sz) (hel : ∀ x ∈ xs, x.cells.length = sz) (hf : Froz G W c o us) (hu1 : ∀ u ∈ us, u.oneCell' = true) (huv : VRels G W (flat xs) us)
    (hta : G.ta k = (c, o + xs.length * sz, o + cap * sz)) (htk : (S.toks.get k).isSome = true) (hyv : VRels G W (flat ys) news) (hy1 : ∀ u ∈ news, u.oneCell' = true) (hye : ∀ x ∈ ys, x.cells.length = sz) (hroom : xs.length + ys.length ≤ cap) :
    ∃ G', (∀ j, j < news.length → (at_ W c (o + xs.length * sz + j)).isSome = true ∧ frz_ W c (o + xs.length * sz + j) = false) ∧
      ARel G0 W0 G' (W.setCells c (o + xs.length * sz) news) rho E a nt ∧ SRel G' (W.setCells c (o + xs.length * sz) news) (grown S false sz (xs ++ ys) (.id k)).2 ∧ VRel G' (W.setCells c (o + xs.length * sz) news) (grown S false sz (xs ++ ys) (.id k)).1 (.slice (some ⟨c, o, none⟩) (xs.length + ys.length) cap) := by
  have hul : us.length = xs.length * sz := by rw [VRels.length huv, flat_len hel]
  have hnl : news.length = ys.length * sz := by rw [VRels.length hyv, flat_len hye]
  have hnx := hs.next
  obtain ⟨_, htr⟩ := hs.toks k (by cases hq : S.toks.get k with | none => simp [hq] at htk | some q => rfl)
  rw [hta] at htr
  simp only at htr
  have hmul : (xs.length + ys.length) * sz ≤ cap * sz := Nat.mul_le_mul_right _ hroom
  rw [Nat.add_mul] at hmul
  obtain ⟨G', hG'⟩ : ∃ G' : Gh, G' = { G with kind := fun b j => if b = c ∧ o + xs.length * sz ≤ j ∧ j < o + cap * sz then (if j < o + (xs.length + ys.length) * sz then .fz else .tok G.next) else G.kind b j, ta := fun b => if b = G.next then (c, o + (xs.length + ys.length) * sz, o + cap * sz) else G.ta b, pend := fun b => if b = G.next then false else G.pend b, next := G.next + 1 } := ⟨_, rfl⟩
  have hkind : ∀ b j, G'.kind b j = if b = c ∧ o + xs.length * sz ≤ j ∧ j < o + cap * sz then (if j < o + (xs.length + ys.length) * sz then .fz else .tok G.next) else G.kind b j := fun b j => by rw [hG']
  have hk : ∀ b j, ¬ (G.kind b j = .tok k) → G'.kind b j = G.kind b j := by
    intro b j hne
    rw [hkind, if_neg]
    rintro ⟨rfl, j1, j2⟩
    exact hne (htr j j1 j2).1
  have hm : Keeps G G' := by
    subst hG'
    exact ⟨Nat.le_succ _, fun _ _ _ => rfl, fun _ _ _ => rfl, fun _ _ _ => rfl, fun _ _ _ => rfl, fun b hb => by simp [Nat.ne_of_lt hb], fun b hb => by simp [Nat.ne_of_lt hb], fun _ _ => rfl, rfl⟩
  have hw : ∀ j, j < news.length → (G.kind c (o + xs.length * sz + j) = .tok k) ∧ G.kind c (o + xs.length * sz + j) ≠ .no ∧ (at_ W c (o + xs.length * sz + j)).isSome = true := by
    intro j hj
    obtain ⟨e1, e2, _⟩ := htr (o + xs.length * sz + j) (by omega) (by omega)
    exact ⟨e1, by rw [e1]; simp, e2⟩
  have hx := ext_re hs (dead := fun w => w = .tok k) (by simp) (by simp) hw hk hm
  refine ⟨G', fun j hj => ⟨(hw j hj).2.2, (htr _ (by omega) (by omega)).2.2⟩, h.mono hx, ?_, ?_⟩
  · refine srel_re hs (dead := fun w => w = .tok k) (by simp) (by simp) (by simp) (by simp) hw hk hm (by rw [hG']; simp [grown, hnx]) (fun b cs hb => by simpa [grown] using hb) (fun b sz' xs' hb => .inl ⟨by simp, by simpa [grown] using hb⟩) ?_ (fun b hb => by
      have hb : (if b = G.next then false else G.pend b) = true := by rw [hG'] at hb; exact hb
      split at hb
      · simp at hb
      · exact ⟨by have := (hs.pc b hb).1; rw [hs.next]; exact this, fun _ => by simp [grown]⟩)
    intro k' hk'
    simp only [grown, Bool.false_eq_true, if_false] at hk'
    rw [Mp.get_set] at hk'
    split at hk'
    · rename_i e'; subst e'
      right
      refine ⟨by simp [grown], ?_⟩
      have : G'.ta S.next = (c, o + (xs.length + ys.length) * sz, o + cap * sz) := by rw [hG']; simp [hnx]
      rw [this]
      intro j j1 j2
      simp only at j1 j2
      have hle : o + xs.length * sz ≤ j := by rw [Nat.add_mul] at j1; omega
      obtain ⟨e1, e2, e3⟩ := htr j hle j2
      refine ⟨by rw [hkind, if_pos ⟨rfl, hle, j2⟩, if_neg (by omega), hnx], ?_, by rw [frz_setCells]; exact e3⟩
      rw [at_setCells (fun j hj => (hw j hj).2.2)]
      split
      · rw [List.getElem?_eq_getElem (by omega)]; rfl
      · exact e2
    · left
      obtain ⟨q1, q2⟩ := unTok_get hk'
      exact ⟨by simp; exact fun e => q2 (by rw [e]), q1⟩
  · have hcells : ∀ j u, (us ++ news)[j]? = some u → G'.kind c (o + j) = .fz ∧ at_ (W.setCells c (o + xs.length * sz) news) c (o + j) = some u := by
      intro j u hu
      rw [at_setCells (fun j hj => (hw j hj).2.2)]
      by_cases hj : j < us.length
      · rw [List.getElem?_append_left hj] at hu
        obtain ⟨e1, e2⟩ := hf j u hu
        exact ⟨(hk _ _ (by rw [e1]; simp)).trans e1, by rw [if_neg (by omega)]; exact e2⟩
      · rw [List.getElem?_append_right (by omega)] at hu
        have hjn := (List.getElem?_eq_some_iff.1 hu).1
        refine ⟨by rw [hkind, if_pos ⟨rfl, by omega, by omega⟩, if_pos (by rw [Nat.add_mul]; omega)], ?_⟩
        rw [if_pos ⟨rfl, by omega, by omega⟩, show o + j - (o + xs.length * sz) = j - us.length by omega]
        exact hu
    have hres := VRel.sl (G := G') (W := W.setCells c (o + xs.length * sz) news) sz (xs ++ ys) (.id S.next) c o cap (us ++ news) hsz (fun x hx => by
        rcases List.mem_append.1 hx with hx | hx
        · exact hel x hx
        · exact hye x hx) hcells (fun u hu => by
        rcases List.mem_append.1 hu with hu | hu
        · exact hu1 u hu
        · exact hy1 u hu) (by rw [flat_append]; exact VRels.append (VRels.mono hx.toVExt huv) (VRels.mono hx.toVExt hyv)) (by simpa using hroom) (by simp) (by simp) (fun k' hk' => by
        simp only [Tk.id.injEq] at hk'
        subst hk'
        exact ⟨by rw [hG']; simp [hnx], fun _ => by rw [hG']; simp [hnx]⟩)
    simpa [grown] using hres
/-- Room within a row of one's own. -/
theorem room_ar (h : ARel G0 W0 G W rho E a nt) (hs : SRel G W S) {sz b off len cap cap' : Nat} {t : Tk} {all ys : List AV} {news : List Value} (hb : b < G.next) (hp : G.pend b = false) (harr : S.arrs.get b = some (sz, all)) (hsz : 0 < sz)
    (hlen : len ≤ cap) (hcap : cap ≤ cap') (hnl : t ≠ .nl) (hex : t = .ex → cap' = cap) (hid : ∀ k, t = .id k → k < G.next ∧ (G.alen b < off + cap' → G.ta k = ((G.al b).1, (G.al b).2 + G.alen b * G.asz b, (G.al b).2 + (off + cap') * G.asz b)))
    (hyv : VRels G W (flat ys) news) (hy1 : ∀ u ∈ news, u.oneCell' = true) (hye : ∀ x ∈ ys, x.cells.length = sz) (hroom : len + ys.length ≤ cap) (hin : off + cap ≤ all.length) :
    (∀ j, j < news.length → (at_ W (G.al b).1 ((G.al b).2 + off * sz + len * sz + j)).isSome = true ∧ frz_ W (G.al b).1 ((G.al b).2 + off * sz + len * sz + j) = false) ∧
      ARel G0 W0 G (W.setCells (G.al b).1 ((G.al b).2 + off * sz + len * sz) news) rho E a nt ∧ SRel G (W.setCells (G.al b).1 ((G.al b).2 + off * sz + len * sz) news) (setA S b sz (all.take (off + len) ++ ys ++ all.drop (off + len + ys.length))) ∧
      VRel G (W.setCells (G.al b).1 ((G.al b).2 + off * sz + len * sz) news) (.ar b off (len + ys.length) cap t) (.slice (some ⟨(G.al b).1, (G.al b).2 + off * sz, none⟩) (len + ys.length) cap') := by
  obtain ⟨kb0, _, kel, krest⟩ := hs.arrs b sz all harr
  obtain ⟨e1, e2, us, kv, ko⟩ := krest hp
  have hul : us.length = all.length * sz := by rw [VRels.length kv, flat_len kel]
  have hnl' : news.length = ys.length * sz := by rw [VRels.length hyv, flat_len hye]
  have hfit : (off + len) * sz + news.length ≤ us.length := by
    rw [hnl', hul, ← Nat.add_mul]; exact Nat.mul_le_mul_right _ (by omega)
  have hadr : (G.al b).2 + off * sz + len * sz = (G.al b).2 + (off + len) * sz := by rw [Nat.add_mul]; omega
  rw [hadr]
  have hw : ∀ j, j < news.length → (G.kind (G.al b).1 ((G.al b).2 + (off + len) * sz + j) = .arr b) ∧ (at_ W (G.al b).1 ((G.al b).2 + (off + len) * sz + j)).isSome = true ∧ frz_ W (G.al b).1 ((G.al b).2 + (off + len) * sz + j) = false := by
    intro j hj
    obtain ⟨k1, k2, k3, _⟩ := ko ((off + len) * sz + j) _ (List.getElem?_eq_getElem (by omega))
    rw [← Nat.add_assoc] at k1 k2 k3
    exact ⟨k1, by rw [k2]; rfl, k3⟩
  have hc' := fun j hj => (⟨(hw j hj).1, (hw j hj).2.1⟩ : G.kind (G.al b).1 ((G.al b).2 + (off + len) * sz + j) = .arr b ∧ _)
  have hve := vext_set hs hc' (by simp) (by simp)
  have hset := ko.set (off := (off + len) * sz) (vs := news) hfit hy1
  have hnew : VRels G W (flat (all.take (off + len) ++ ys ++ all.drop (off + len + ys.length))) (us.take ((off + len) * sz) ++ news ++ us.drop ((off + len) * sz + news.length)) := by
    rw [flat_append, flat_append, ← flat_take kel, ← flat_drop kel, hnl', ← Nat.add_mul]
    exact VRels.append (VRels.append (VRels.take _ kv) hyv) (VRels.drop _ kv)
  refine ⟨fun j hj => ⟨(hw j hj).2.1, (hw j hj).2.2⟩, arel_set h hs hc' (by simp) (by simp) (by simp), ?_, ?_⟩
  · refine srel_set hs hc' (by simp) (by simp) (S' := setA S b sz (all.take (off + len) ++ ys ++ all.drop (off + len + ys.length))) rfl rfl (fun b' cs hb' => .inl ⟨by simp, hb'⟩) ?_ ?_
    intro b' sz' xs' hb'
    simp only [setA, Mp.get_set] at hb'
    split at hb'
    · rename_i e; subst e
      simp only [Option.some.injEq, Prod.mk.injEq] at hb'
      obtain ⟨rfl, rfl⟩ := hb'
      refine .inr ⟨kb0, hsz, fun y hy => ?_, fun _ => ⟨e1, by rw [e2]; simp; omega, _, VRels.mono hve hnew, hset⟩⟩
      rcases List.mem_append.1 hy with hy | hy
      · rcases List.mem_append.1 hy with hy | hy
        · exact kel y (List.mem_of_mem_take hy)
        · exact hye y hy
      · exact kel y (List.mem_of_mem_drop hy)
    · rename_i hne
      exact .inl ⟨by simp; exact fun e => hne e.symm, hb'⟩
    · intro b' hb'
      refine ⟨rfl, ?_⟩
      simp only [setA, Mp.get_set]
      rw [if_neg (by rintro rfl; rw [hp] at hb'; simp at hb')]
  · have := VRel.ar (G := G) (W := W.setCells (G.al b).1 ((G.al b).2 + (off + len) * sz) news) b off (len + ys.length) cap cap' t ⟨(G.al b).1, (G.al b).2 + off * sz, none⟩ hb hp (by rw [e1]; exact hsz) ⟨rfl, fun _ => by rw [e1]⟩ hroom hcap (by rw [e2]; exact hin) hnl hex hid
    exact this
end
end Go.Ab
