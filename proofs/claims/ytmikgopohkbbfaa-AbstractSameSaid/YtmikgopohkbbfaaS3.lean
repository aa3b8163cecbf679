/- What an operation has done; a store. -/
import Derived.Test.YtmikgopohkbbfaaS2
namespace Go.Ab
open Go.RowKit (Below)
def RsRel (G : Gh) (W : World) (rho : Nat → Nat) (E : Env) : Rs → Value → Prop
  | .val v, u => VRel G W v u
  | .adr t off, u => u = .pointer (some ⟨rho t, off, none⟩) ∧ (E.r.get t).isSome
  | .no, _ => True
/-- The operation ran, and frame and state are again what they should be. -/
def Done (P : Program) (G0 : Gh) (W0 : World) (nt : Nat) (a : Act) (s : Sem Next) (W : World) (r : Rs) (E' : Env) (S' : St) : Prop :=
  ∃ u W' G' rho', (s.run P W = .ok (.value u) W' ∨ (s.run P W = .ok .skip W' ∧ u = undef)) ∧ RsRel G' W' rho' E' r u ∧ ARel G0 W0 G' W' rho' E' a nt ∧ SRel G' W' S'
section
variable {P : Program} {an : An} {G0 : Gh} {W0 : World} {G : Gh} {W : World} {S : St} {rho : Nat → Nat} {E : Env} {a : Act} {nt : Nat}
/-- A row of one owner is written. -/
theorem vext_set (hs : SRel G W S) {w : Own} {c o : Nat} {ws : List Value} (hc : ∀ j, j < ws.length → G.kind c (o + j) = w ∧ (at_ W c (o + j)).isSome = true) (hw : w ≠ .fz) (hn : w ≠ .no) :
    VExt G W G (W.setCells c o ws) where
  fz x y hk := by
    refine ⟨hk, fun u hu => ?_⟩
    rw [at_setCells (fun j hj => (hc j hj).2), if_neg ?_]
    · exact hu
    · rintro ⟨rfl, h1, h2⟩
      have := (hc (y - o) (by omega)).1
      rw [show o + (y - o) = y by omega, hk] at this
      exact hw this.symm
  next := Nat.le_refl _
  mu _ _ _ := rfl
  al _ _ _ := rfl
  asz _ _ _ := rfl
  alen _ _ _ := rfl
  ta _ _ := rfl
  pend _ _ h := h
  base := rfl
  below := by
    by_cases h0 : ws.length = 0
    · have : ws = [] := by simpa using h0
      subst this; exact Below.refl _ _
    · have h1 := (hc 0 (by omega)).1
      have hb := hs.base c (o + 0) (by rw [h1]; exact hn) (by rw [h1]; exact hw)
      exact below_setCells (w := W) c hb ws o W (Below.refl _ _)
theorem ext_set (hs : SRel G W S) {w : Own} {c o : Nat} {ws : List Value} (hc : ∀ j, j < ws.length → G.kind c (o + j) = w ∧ (at_ W c (o + j)).isSome = true) (hw : w ≠ .fz) (hn : w ≠ .no) (hp : w ≠ .pr) :
    Ext G W G (W.setCells c o ws) where
  toVExt := vext_set hs hc hw hn
  pr x y hk := by
    refine ⟨hk, ?_, frz_setCells x y⟩
    rw [at_setCells (fun j hj => (hc j hj).2), if_neg ?_]
    rintro ⟨rfl, h1, h2⟩
    have := (hc (y - o) (by omega)).1
    rw [show o + (y - o) = y by omega, hk] at this
    exact hp this.symm
  pend' _ _ := rfl
  pc' _ _ := rfl
theorem srel_set (hs : SRel G W S) {w : Own} {c o : Nat} {ws : List Value} (hc : ∀ j, j < ws.length → G.kind c (o + j) = w ∧ (at_ W c (o + j)).isSome = true) (hw : w ≠ .fz) (hn : w ≠ .no) {S' : St}
    (h1 : S'.next = S.next) (h2 : S'.toks = S.toks)
    (h3 : ∀ b cs, S'.objs.get b = some cs → (w ≠ .obj b ∧ S.objs.get b = some cs) ∨ (b < S.next ∧ (G.pend b = false → ∃ us, VRels G (W.setCells c o ws) cs us ∧ Owns G (W.setCells c o ws) (.obj b) (G.mu b) 0 us)))
    (h4 : ∀ b sz xs, S'.arrs.get b = some (sz, xs) → (w ≠ .arr b ∧ S.arrs.get b = some (sz, xs)) ∨ (b < S.next ∧ 0 < sz ∧ (∀ x ∈ xs, x.cells.length = sz) ∧ (G.pend b = false → G.asz b = sz ∧ G.alen b = xs.length ∧ ∃ us, VRels G (W.setCells c o ws) (flat xs) us ∧ Owns G (W.setCells c o ws) (.arr b) (G.al b).1 (G.al b).2 us)))
    (h6 : ∀ b, G.pend b = true → S'.objs.get b = S.objs.get b ∧ S'.arrs.get b = S.arrs.get b) :
    SRel G (W.setCells c o ws) S' where
  next := hs.next.trans h1.symm
  objs b cs hb := by
    rw [h1]
    rcases h3 b cs hb with ⟨hne, h⟩ | h
    · obtain ⟨k1, k2⟩ := hs.objs b cs h
      refine ⟨k1, fun hp => ?_⟩
      obtain ⟨us, hv, ho⟩ := k2 hp
      exact ⟨us, VRels.mono (vext_set hs hc hw hn) hv, ho.other hc (.inl (Ne.symm hne))⟩
    · exact h
  arrs b sz xs hb := by
    rw [h1]
    rcases h4 b sz xs hb with ⟨hne, h⟩ | h
    · obtain ⟨k1, k2, k3, k4⟩ := hs.arrs b sz xs h
      refine ⟨k1, k2, k3, fun hp => ?_⟩
      obtain ⟨e1, e2, us, hv, ho⟩ := k4 hp
      exact ⟨e1, e2, us, VRels.mono (vext_set hs hc hw hn) hv, ho.other hc (.inl (Ne.symm hne))⟩
    · exact h
  toks k hk := by
    rw [h2] at hk
    rw [h1]
    obtain ⟨k1, k2⟩ := hs.toks k hk
    refine ⟨k1, fun j j1 j2 => ?_⟩
    obtain ⟨e1, e2, e3⟩ := k2 j j1 j2
    refine ⟨e1, ?_, by rw [frz_setCells]; exact e3⟩
    rw [at_setCells (fun j hj => (hc j hj).2)]
    split
    · rename_i hcond
      rw [List.getElem?_eq_getElem (by omega)]; rfl
    · exact e2
  fresh x y h := by rw [heap_size_setCells]; exact hs.fresh x y h
  base := hs.base
  hbase := by rw [heap_size_setCells]; exact hs.hbase
  pc b hb := let ⟨k1, k2, k3⟩ := hs.pc b hb; ⟨by rw [h1]; exact k1, (h6 b hb).1.trans k2, (h6 b hb).2.trans k3⟩
/-- The frame, where what is written isn't private. -/
theorem arel_set (h : ARel G0 W0 G W rho E a nt) (hs : SRel G W S) {w : Own} {c o : Nat} {ws : List Value} (hc : ∀ j, j < ws.length → G.kind c (o + j) = w ∧ (at_ W c (o + j)).isSome = true) (hw : w ≠ .fz) (hn : w ≠ .no) (hp : w ≠ .pr) :
    ARel G0 W0 G (W.setCells c o ws) rho E a nt := h.mono (ext_set hs hc hw hn hp)
/-- The frame, where one of its own rows is written. -/
theorem arel_setR (h : ARel G0 W0 G W rho E a nt) (hs : SRel G W S) {t off : Nat} {ds ds' : List AV} {us ws : List Value} (hd : E.r.get t = some ds) (ho : Owns G W .pr (rho t) 0 us) (hl : off + ws.length ≤ us.length) (h1 : ∀ v ∈ ws, v.oneCell' = true)
    (hv : VRels G W ds' (us.take off ++ ws ++ us.drop (off + ws.length))) :
    ARel G0 W0 G (W.setCells (rho t) off ws) rho { t := E.t, p := E.p, r := E.r.set t (some ds'), g := E.g } a nt := by
  have hc : ∀ j, j < ws.length → G.kind (rho t) (off + j) = .pr ∧ (at_ W (rho t) (off + j)).isSome = true := by
    intro j hj
    obtain ⟨k1, k2, _, _⟩ := ho (off + j) _ (List.getElem?_eq_getElem (by omega))
    simp only [Nat.zero_add] at k1 k2
    exact ⟨k1, by rw [k2]; rfl⟩
  have hve := vext_set hs hc (by simp) (by simp)
  obtain ⟨ht0, htW, _⟩ := h.r t ds hd
  refine ⟨?_, h.f0, h.size, h.defers, ?_, ?_, ?_, ?_⟩
  · refine { toVExt := h.e0.toVExt.trans hve, pr := fun x y hk => ?_, pend' := h.e0.pend', pc' := h.e0.pc' }
    obtain ⟨e1, e2, e3⟩ := h.e0.pr x y hk
    refine ⟨e1, ?_, (frz_setCells x y).trans e3⟩
    rw [at_setCells (fun j hj => (hc j hj).2), if_neg ?_]
    · exact e2
    · rintro ⟨rfl, _, _⟩
      have hx : rho t < W0.heap.size := h.f0 _ _ (by rw [hk]; simp)
      omega
  · intro n v hn
    obtain ⟨u, hu, hr⟩ := h.t n v hn
    exact ⟨u, hu, hr.mono hve⟩
  · intro n t' off' hp
    obtain ⟨k1, k2, k3⟩ := h.p n t' off' hp
    refine ⟨k1, k2, ?_⟩
    simp only [Mp.get_set]
    split
    · rfl
    · exact k3
  · intro t' cs ht'
    simp only [Mp.get_set] at ht'
    split at ht'
    · rename_i he
      subst he
      simp only [Option.some.injEq] at ht'
      subst ht'
      refine ⟨ht0, by rw [heap_size_setCells]; exact htW, _, VRels.mono hve hv, ?_⟩
      have := ho.set hl h1
      simpa using this
    · rename_i hne
      obtain ⟨k0, k1, us', kv, ko⟩ := h.r t' cs ht'
      refine ⟨k0, by rw [heap_size_setCells]; exact k1, us', VRels.mono hve kv, ko.other hc (.inr (fun he => hne (h.inj t' t cs ds ht' hd he)))⟩
  · intro t1 t2 c1 c2 h1' h2' he
    simp only [Mp.get_set] at h1' h2'
    have g1 : ∃ c, E.r.get t1 = some c := by
      split at h1'
      · rename_i e; subst e; exact ⟨_, hd⟩
      · exact ⟨_, h1'⟩
    have g2 : ∃ c, E.r.get t2 = some c := by
      split at h2'
      · rename_i e; subst e; exact ⟨_, hd⟩
      · exact ⟨_, h2'⟩
    obtain ⟨c1', g1⟩ := g1
    obtain ⟨c2', g2⟩ := g2
    exact h.inj t1 t2 _ _ g1 g2 he
theorem run_storeAt' {t : TypeId} {n : Nat} {c o : Nat} {u : Value} (hn : cSize P t = some n) (hl : u.cells.size = n) (h1 : ∀ x ∈ u.cells.toList, x.oneCell' = true)
    (hc : ∀ j, j < u.cells.toList.length → (at_ W c (o + j)).isSome = true) (hf : ∀ j, j < u.cells.toList.length → frz_ W c (o + j) = false) :
    (Instr.storeAt t (.pointer (some ⟨c, o, none⟩)) u).run P W = .ok () (W.setCells c o u.cells.toList) := by
  have hst := run_storeCells_cells (P := P) c o u.cells.toList 0 W (by simpa [at_] using hc) (by simpa [frz_] using hf) h1
  simp only [Nat.add_zero] at hst
  simp [Instr.storeAt, Instr.sureAddr, storeVar, run_sizeOf hn, hl, hst]
theorem reCells_cells {w : AV} {cs : List AV} {v : AV} (h : reCells w cs = some v) (hl : cs.length = w.cells.length) : v.cells.length = w.cells.length ∧ v.cells = cs ∨ ∃ x, cs = [x] ∧ v = x ∧ w.cells.length = 1 := by
  unfold reCells at h
  split at h
  · simp only [Option.some.injEq] at h; subst h; exact .inl ⟨by simpa [AV.cells] using hl, rfl⟩
  · split at h
    · rename_i x
      simp only [Option.some.injEq] at h; subst h
      exact .inr ⟨_, rfl, rfl, by simpa using hl.symm⟩
    · simp at h
theorem flat_set {sz : Nat} : ∀ {xs : List AV} {j : Nat} {w : AV}, (∀ x ∈ xs, x.cells.length = sz) → w.cells.length = sz → j < xs.length → flat (xs.set j w) = (flat xs).take (j * sz) ++ w.cells ++ (flat xs).drop (j * sz + sz)
  | [], j, w, _, _, hj => by simp at hj
  | x :: r, 0, w, h, hw, _ => by
    have hx := h x (by simp)
    simp only [List.set_cons_zero, flat, List.flatMap_cons, Nat.zero_mul, List.take_zero, List.nil_append, Nat.zero_add]
    rw [List.drop_left' hx]
  | x :: r, j + 1, w, h, hw, hj => by
    have hx := h x (by simp)
    have ih := flat_set (xs := r) (j := j) (w := w) (fun y hy => h y (by simp [hy])) hw (by simpa using hj)
    simp only [List.set_cons_succ, flat, List.flatMap_cons] at ih ⊢
    rw [ih, Nat.succ_mul]
    rw [show j * sz + sz + sz = x.cells.length + (j * sz + sz) by omega, List.drop_length_add_append]
    rw [show j * sz + sz = x.cells.length + j * sz by omega, List.take_length_add_append]
    rw [show x.cells.length + j * sz = j * sz + sz by omega]
    simp [List.append_assoc]
/-- A store. -/
theorem st_done (h : ARel G0 W0 G W rho E a nt) (hs : SRel G W S) {t : TypeId} {n : Nat} (hn : cSize P t = some n) {ad : Ad} {u : Value} (hr : AdRel G W rho E ad u) {v : AV} {x : Value} (hv : VRel G W v x) (htu : v.isTu = false)
    {E' : Env} {S' : St} (hst : stV E S n ad v.cells = some (E', S')) {s : Sem Next} (hrun : ∀ W', (Instr.storeAt t u x).run P W = .ok () W' → s.run P W = .ok .skip W') :
    Done P G0 W0 nt a s W .no E' S' := by
  obtain ⟨hcr, h1⟩ := cells_rel hv htu
  have hlen := VRels.length hcr
  unfold stV at hst
  split at hst
  · simp at hst
  · rename_i hvl
    simp only [ne_eq, Decidable.not_not] at hvl
    have hxl : x.cells.size = n := by simpa [hvl] using hlen
    cases ad with
    | rg t' off =>
      obtain ⟨rfl, _⟩ := hr
      simp only at hst
      split at hst
      · rename_i ds hd
        split at hst
        · rename_i ds' hp
          simp only [Option.some.injEq, Prod.mk.injEq] at hst
          obtain ⟨rfl, rfl⟩ := hst
          obtain ⟨_, _, us, kv, ko⟩ := h.r t' ds hd
          obtain ⟨p1, p2, p3⟩ := paste_rel kv hcr hp
          have hc : ∀ j, j < x.cells.toList.length → G.kind (rho t') (off + j) = .pr ∧ (at_ W (rho t') (off + j)).isSome = true ∧ frz_ W (rho t') (off + j) = false := by
            intro j hj
            obtain ⟨k1, k2, k3, _⟩ := ko (off + j) _ (List.getElem?_eq_getElem (by omega))
            simp only [Nat.zero_add] at k1 k2 k3
            exact ⟨k1, by rw [k2]; rfl, k3⟩
          have hrn := run_storeAt' (P := P) (W := W) (c := rho t') (o := off) hn hxl h1 (fun j hj => (hc j hj).2.1) (fun j hj => (hc j hj).2.2)
          have hsr := srel_set hs (w := .pr) (c := rho t') (o := off) (ws := x.cells.toList) (fun j hj => ⟨(hc j hj).1, (hc j hj).2.1⟩) (by simp) (by simp) (S' := S) rfl rfl (fun b cs hb => .inl ⟨by simp, hb⟩) (fun b sz xs hb => .inl ⟨by simp, hb⟩) (fun _ _ => ⟨rfl, rfl⟩)
          exact ⟨undef, _, G, rho, .inr ⟨hrun _ hrn, rfl⟩, trivial, arel_setR h hs hd ko p1 h1 p2, hsr⟩
        · simp at hst
      · simp at hst
    | v y =>
      change VRel G W y u at hr
      cases hr with
      | rf o off ho hp =>
        simp only at hst
        split at hst
        · rename_i ds hd
          split at hst
          · rename_i ds' hpst
            simp only [Option.some.injEq, Prod.mk.injEq] at hst
            obtain ⟨rfl, rfl⟩ := hst
            obtain ⟨ko0, krest⟩ := hs.objs o ds hd
            obtain ⟨us, kv, ko⟩ := krest hp
            obtain ⟨p1, p2, p3⟩ := paste_rel kv hcr hpst
            have hc : ∀ j, j < x.cells.toList.length → G.kind (G.mu o) (off + j) = .obj o ∧ (at_ W (G.mu o) (off + j)).isSome = true ∧ frz_ W (G.mu o) (off + j) = false := by
              intro j hj
              obtain ⟨k1, k2, k3, _⟩ := ko (off + j) _ (List.getElem?_eq_getElem (by omega))
              simp only [Nat.zero_add] at k1 k2 k3
              exact ⟨k1, by rw [k2]; rfl, k3⟩
            have hrn := run_storeAt' (P := P) (W := W) (c := G.mu o) (o := off) hn hxl h1 (fun j hj => (hc j hj).2.1) (fun j hj => (hc j hj).2.2)
            have hc' := fun j hj => (⟨(hc j hj).1, (hc j hj).2.1⟩ : G.kind (G.mu o) (off + j) = .obj o ∧ _)
            have hve := vext_set hs hc' (by simp) (by simp)
            have hsr := srel_set hs (w := .obj o) hc' (by simp) (by simp) (S' := { objs := S.objs.set o (some ds'), arrs := S.arrs, toks := S.toks, next := S.next }) rfl rfl
              (fun b cs hb => by
                simp only [Mp.get_set] at hb
                split at hb
                · rename_i e; subst e
                  simp only [Option.some.injEq] at hb; subst hb
                  exact .inr ⟨ko0, fun _ => ⟨_, VRels.mono hve p2, by simpa using ko.set p1 h1⟩⟩
                · rename_i hne
                  exact .inl ⟨by simp; exact fun e => hne e.symm, hb⟩)
              (fun b sz xs hb => .inl ⟨by simp, hb⟩)
              (fun b hb => ⟨by rw [Mp.get_set, if_neg (by rintro rfl; rw [hp] at hb; simp at hb)], rfl⟩)
            exact ⟨undef, _, G, rho, .inr ⟨hrun _ hrn, rfl⟩, trivial, arel_set h hs hc' (by simp) (by simp) (by simp), hsr⟩
          · simp at hst
        · simp at hst
      | ap b idx off hb hp =>
        simp only at hst
        split at hst
        · rename_i sz xs hx
          split at hst
          · rename_i w hw
            split at hst
            · rename_i ds' hpst
              split at hst
              · rename_i w' hw'
                simp only [Option.some.injEq, Prod.mk.injEq] at hst
                obtain ⟨rfl, rfl⟩ := hst
                obtain ⟨kb0, hsz, hel, krest⟩ := hs.arrs b sz xs hx
                obtain ⟨e1, e2, us, kv, ko⟩ := krest hp
                have hil : idx < xs.length := (List.getElem?_eq_some_iff.1 hw).1
                have hwc : w.cells.length = sz := hel w (List.mem_of_getElem? hw)
                have hwv : VRels G W w.cells ((us.drop (idx * sz)).take sz) := by rw [← flat_at hel hw]; exact VRels.take sz (VRels.drop _ kv)
                obtain ⟨p1, p2, p3⟩ := paste_rel hwv hcr hpst
                have hul : us.length = xs.length * sz := by rw [VRels.length kv, flat_len hel]
                have hfit : idx * sz + sz ≤ us.length := by rw [hul, ← Nat.succ_mul]; exact Nat.mul_le_mul_right _ hil
                have hpos : off + x.cells.toList.length ≤ sz := by simp at p1; simp; omega
                have hc : ∀ j, j < x.cells.toList.length → G.kind (G.al b).1 ((G.al b).2 + idx * G.asz b + off + j) = .arr b ∧ (at_ W (G.al b).1 ((G.al b).2 + idx * G.asz b + off + j)).isSome = true ∧ frz_ W (G.al b).1 ((G.al b).2 + idx * G.asz b + off + j) = false := by
                  intro j hj
                  obtain ⟨k1, k2, k3, _⟩ := ko (idx * sz + off + j) _ (List.getElem?_eq_getElem (by omega))
                  rw [e1, show (G.al b).2 + idx * sz + off + j = (G.al b).2 + (idx * sz + off + j) by omega]
                  exact ⟨k1, by rw [k2]; rfl, k3⟩
                have hrn := run_storeAt' (P := P) (W := W) (c := (G.al b).1) (o := (G.al b).2 + idx * G.asz b + off) hn hxl h1 (fun j hj => (hc j hj).2.1) (fun j hj => (hc j hj).2.2)
                have hc' := fun j hj => (⟨(hc j hj).1, (hc j hj).2.1⟩ : G.kind (G.al b).1 ((G.al b).2 + idx * G.asz b + off + j) = .arr b ∧ _)
                have hve := vext_set hs hc' (by simp) (by simp)
                have hw'c : w'.cells.length = sz ∧ VRels G W w'.cells (((us.drop (idx * sz)).take sz).take off ++ x.cells.toList ++ ((us.drop (idx * sz)).take sz).drop (off + x.cells.toList.length)) := by
                  rcases reCells_cells hw' (by rw [p3]) with ⟨q1, q2⟩ | ⟨y, q1, rfl, q3⟩
                  · exact ⟨by rw [q1, hwc], by rw [q2]; exact p2⟩
                  · subst q1
                    cases p2q : (((us.drop (idx * sz)).take sz).take off ++ x.cells.toList ++ ((us.drop (idx * sz)).take sz).drop (off + x.cells.toList.length)) with
                    | nil => rw [p2q] at p2; cases p2
                    | cons z zs =>
                      rw [p2q] at p2
                      cases p2 with
                      | cons _ _ _ _ hz hr =>
                        cases hr
                        have hz1 : z.oneCell' = true := by
                          have hm : z ∈ (((us.drop (idx * sz)).take sz).take off ++ x.cells.toList ++ ((us.drop (idx * sz)).take sz).drop (off + x.cells.toList.length)) := by rw [p2q]; simp
                          rcases List.mem_append.1 hm with hm | hm
                          · rcases List.mem_append.1 hm with hm | hm
                            · exact mem_sub ko.one _ _ _ (List.mem_of_mem_take hm)
                            · exact h1 _ hm
                          · exact mem_sub ko.one _ _ _ (List.mem_of_mem_drop hm)
                        have hyc : w'.cells = [w'] := by
                          cases hz <;> first | rfl | (simp [Value.oneCell'] at hz1)
                        rw [hyc]
                        exact ⟨by rw [← hwc, q3]; rfl, .cons _ _ _ _ hz .nil⟩
                obtain ⟨hw'l, hw'v⟩ := hw'c
                have hset := ko.set (off := idx * sz + off) (vs := x.cells.toList) (by omega) h1
                have hfl := flat_set hel hw'l hil
                have hnew : VRels G W (flat (xs.set idx w')) (us.take (idx * sz + off) ++ x.cells.toList ++ us.drop (idx * sz + off + x.cells.toList.length)) := by
                  rw [hfl]
                  have hA := VRels.append (VRels.append (VRels.take (idx * sz) kv) hw'v) (VRels.drop (idx * sz + sz) kv)
                  have heq : us.take (idx * sz + off) ++ x.cells.toList ++ us.drop (idx * sz + off + x.cells.toList.length) =
                      us.take (idx * sz) ++ (((us.drop (idx * sz)).take sz).take off ++ x.cells.toList ++ ((us.drop (idx * sz)).take sz).drop (off + x.cells.toList.length)) ++ us.drop (idx * sz + sz) := by
                    rw [List.take_take, Nat.min_eq_left (by omega), List.drop_take, List.drop_drop]
                    rw [List.take_add]
                    have : us.drop (idx * sz + off + x.cells.toList.length) = (us.drop (idx * sz + (off + x.cells.toList.length))).take (sz - (off + x.cells.toList.length)) ++ us.drop (idx * sz + sz) := by
                      have key : ∀ (l : List Value) (p q : Nat), l.drop p = (l.drop p).take q ++ l.drop (p + q) := fun l p q => by rw [← List.drop_drop, List.take_append_drop]
                      have := key us (idx * sz + (off + x.cells.toList.length)) (sz - (off + x.cells.toList.length))
                      rw [show idx * sz + (off + x.cells.toList.length) + (sz - (off + x.cells.toList.length)) = idx * sz + sz by omega] at this
                      rw [Nat.add_assoc]; exact this
                    rw [this]
                    simp [List.append_assoc]
                  rw [heq]; exact hA
                have hsr := srel_set hs (w := .arr b) hc' (by simp) (by simp) (S' := { objs := S.objs, arrs := S.arrs.set b (some (sz, xs.set idx w')), toks := S.toks, next := S.next }) rfl rfl
                  (fun b' cs hb' => .inl ⟨by simp, hb'⟩)
                  (fun b' sz' xs' hb' => by
                    simp only [Mp.get_set] at hb'
                    split at hb'
                    · rename_i e; subst e
                      simp only [Option.some.injEq, Prod.mk.injEq] at hb'
                      obtain ⟨rfl, rfl⟩ := hb'
                      refine .inr ⟨kb0, hsz, fun y hy => ?_, fun _ => ⟨e1, by simp [e2], _, VRels.mono hve hnew, ?_⟩⟩
                      · rcases List.mem_or_eq_of_mem_set hy with hy | rfl
                        · exact hel y hy
                        · exact hw'l
                      · rw [e1, show (G.al b').2 + idx * sz + off = (G.al b').2 + (idx * sz + off) by omega]; exact hset
                    · rename_i hne
                      exact .inl ⟨by simp; exact fun e => hne e.symm, hb'⟩)
                  (fun b' hb' => ⟨rfl, by rw [Mp.get_set, if_neg (by rintro rfl; rw [hp] at hb'; simp at hb')]⟩)
                exact ⟨undef, _, G, rho, .inr ⟨hrun _ hrn, rfl⟩, trivial, arel_set h hs hc' (by simp) (by simp) (by simp), hsr⟩
              · simp at hst
            · simp at hst
          · simp at hst
        · simp at hst
      | _ => simp at hst
end
end Go.Ab
