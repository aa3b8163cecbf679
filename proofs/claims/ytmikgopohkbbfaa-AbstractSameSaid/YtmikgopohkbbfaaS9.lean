/- An append is what the machine of values says: all cases. -/
import Derived.Test.YtmikgopohkbbfaaS8
namespace Go.Ab
open Go.RowKit (Below)
section
variable {P : Program} {an : An} {G0 : Gh} {W0 : World} {G G' : Gh} {W : World} {S S' : St} {rho : Nat → Nat} {E : Env} {a : Act} {nt : Nat}
/-- Room behind a row of one's own. -/
theorem room_art (h : ARel G0 W0 G W rho E a nt) (hs : SRel G W S) {sz b off len cap' k : Nat} {all ys : List AV} {news : List Value} (hp : G.pend b = false) (harr : S.arrs.get b = some (sz, all)) (hsz : 0 < sz)
    (hta : G.ta k = ((G.al b).1, (G.al b).2 + G.alen b * G.asz b, (G.al b).2 + (off + cap') * G.asz b)) (htk : (S.toks.get k).isSome = true)
    (hyv : VRels G W (flat ys) news) (hy1 : ∀ u ∈ news, u.oneCell' = true) (hye : ∀ x ∈ ys, x.cells.length = sz) (hroom : len + ys.length ≤ cap') (htip : off + len = all.length) :
    ∃ G', (∀ j, j < news.length → (at_ W (G.al b).1 ((G.al b).2 + off * sz + len * sz + j)).isSome = true ∧ frz_ W (G.al b).1 ((G.al b).2 + off * sz + len * sz + j) = false) ∧
      ARel G0 W0 G' (W.setCells (G.al b).1 ((G.al b).2 + off * sz + len * sz) news) rho E a nt ∧ SRel G' (W.setCells (G.al b).1 ((G.al b).2 + off * sz + len * sz) news) (grown (killA S b) true sz ((all.drop off).take len ++ ys) (.id k)).2 ∧
      VRel G' (W.setCells (G.al b).1 ((G.al b).2 + off * sz + len * sz) news) (grown (killA S b) true sz ((all.drop off).take len ++ ys) (.id k)).1 (.slice (some ⟨(G.al b).1, (G.al b).2 + off * sz, none⟩) (len + ys.length) cap') := by
  obtain ⟨kb0, _, kel, krest⟩ := hs.arrs b sz all harr
  obtain ⟨e1, e2, us, kv, ko⟩ := krest hp
  have hnx := hs.next
  have hul : us.length = all.length * sz := by rw [VRels.length kv, flat_len kel]
  have hnl' : news.length = ys.length * sz := by rw [VRels.length hyv, flat_len hye]
  have htake : (all.drop off).take len = all.drop off := List.take_of_length_le (by rw [List.length_drop]; omega)
  rw [htake]
  obtain ⟨_, htr⟩ := hs.toks k (by cases hq : S.toks.get k with | none => simp [hq] at htk | some q => rfl)
  rw [hta, e1, e2, ← htip] at htr
  simp only at htr
  obtain ⟨c, hc⟩ : ∃ c, c = (G.al b).1 := ⟨_, rfl⟩
  obtain ⟨st, hst⟩ : ∃ st, st = (G.al b).2 + off * sz := ⟨_, rfl⟩
  have hmid : (G.al b).2 + (off + len) * sz = st + len * sz := by rw [hst, Nat.add_mul]; omega
  have hsp : (G.al b).2 + (off + cap') * sz = st + cap' * sz := by rw [hst, Nat.add_mul]; omega
  rw [hmid, hsp, ← hc] at htr
  have hlm : (len + ys.length) * sz = len * sz + ys.length * sz := Nat.add_mul ..
  have hle : (len + ys.length) * sz ≤ cap' * sz := Nat.mul_le_mul_right _ hroom
  rw [← hc, ← hst]
  have hown : ∀ j u, (us.drop (off * sz))[j]? = some u → G.kind c (st + j) = .arr b ∧ at_ W c (st + j) = some u ∧ frz_ W c (st + j) = false ∧ u.oneCell' = true := by
    intro j u hu
    rw [List.getElem?_drop] at hu
    have := ko _ _ hu
    rw [← Nat.add_assoc, ← hst, ← hc] at this
    exact this
  have hdl : (us.drop (off * sz)).length = len * sz := by rw [List.length_drop, hul, ← Nat.sub_mul, ← htip]; congr 1; omega
  have harrk : ∀ j, st ≤ j → j < st + len * sz → G.kind c j = .arr b ∧ (at_ W c j).isSome = true ∧ frz_ W c j = false := by
    intro j j1 j2
    obtain ⟨k1, k2, k3, _⟩ := hown (j - st) _ (List.getElem?_eq_getElem (by omega))
    rw [show st + (j - st) = j by omega] at k1 k2 k3
    exact ⟨k1, by rw [k2]; rfl, k3⟩
  obtain ⟨G', hG'⟩ : ∃ G' : Gh, G' = { G with kind := fun b' j => if b' = c ∧ st ≤ j ∧ j < st + cap' * sz then (if j < st + (len + ys.length) * sz then .arr (G.next + 1) else .tok G.next) else G.kind b' j, ta := fun b' => if b' = G.next then (c, st + (len + ys.length) * sz, st + cap' * sz) else G.ta b', al := fun b' => if b' = G.next + 1 then (c, st) else G.al b', asz := fun b' => if b' = G.next + 1 then sz else G.asz b', alen := fun b' => if b' = G.next + 1 then len + ys.length else G.alen b', pend := fun b' => if b' = G.next ∨ b' = G.next + 1 then false else G.pend b', next := G.next + 2 } := ⟨_, rfl⟩
  have hkind : ∀ b' j, G'.kind b' j = if b' = c ∧ st ≤ j ∧ j < st + cap' * sz then (if j < st + (len + ys.length) * sz then .arr (G.next + 1) else .tok G.next) else G.kind b' j := fun b' j => by rw [hG']
  have hdeadr : ∀ j, st ≤ j → j < st + cap' * sz → (G.kind c j = .arr b ∨ G.kind c j = .tok k) ∧ (at_ W c j).isSome = true ∧ frz_ W c j = false := by
    intro j j1 j2
    by_cases hj : j < st + len * sz
    · obtain ⟨k1, k2, k3⟩ := harrk j j1 hj
      exact ⟨.inl k1, k2, k3⟩
    · obtain ⟨k1, k2, k3⟩ := htr j (by omega) j2
      exact ⟨.inr k1, k2, k3⟩
  have hk : ∀ b' j, ¬ (G.kind b' j = .arr b ∨ G.kind b' j = .tok k) → G'.kind b' j = G.kind b' j := by
    intro b' j hne
    rw [hkind, if_neg]
    rintro ⟨rfl, j1, j2⟩
    exact hne (hdeadr j j1 j2).1
  have hm : Keeps G G' := by
    subst hG'
    refine ⟨by simp, fun _ _ _ => rfl, fun b' hb _ => ?_, fun b' hb _ => ?_, fun b' hb _ => ?_, fun b' hb => ?_, fun b' hb => ?_, fun _ _ => rfl, rfl⟩ <;> simp only <;> rw [if_neg (by omega)]
  have hw : ∀ j, j < news.length → (G.kind c (st + len * sz + j) = .arr b ∨ G.kind c (st + len * sz + j) = .tok k) ∧ G.kind c (st + len * sz + j) ≠ .no ∧ (at_ W c (st + len * sz + j)).isSome = true := by
    intro j hj
    obtain ⟨k1, k2, _⟩ := hdeadr (st + len * sz + j) (by omega) (by omega)
    exact ⟨k1, by rcases k1 with k1 | k1 <;> rw [k1] <;> simp, k2⟩
  have hx := ext_re hs (dead := fun w => w = .arr b ∨ w = .tok k) (by simp) (by simp) hw hk hm
  have hcells : ∀ j u, (us.drop (off * sz) ++ news)[j]? = some u → G'.kind c (st + j) = .arr (G.next + 1) ∧ at_ (W.setCells c (st + len * sz) news) c (st + j) = some u ∧ frz_ (W.setCells c (st + len * sz) news) c (st + j) = false ∧ u.oneCell' = true := by
    intro j u hu
    have hjl := (List.getElem?_eq_some_iff.1 hu).1
    rw [List.length_append, hdl, hnl', ← hlm] at hjl
    refine ⟨by rw [hkind, if_pos ⟨rfl, by omega, by omega⟩, if_pos (by omega)], ?_, by rw [frz_setCells]; exact (hdeadr (st + j) (by omega) (by omega)).2.2, ?_⟩
    · rw [at_setCells (fun j hj => (hw j hj).2.2)]
      by_cases hj : j < len * sz
      · rw [if_neg (by omega)]
        rw [List.getElem?_append_left (by omega)] at hu
        exact (hown j u hu).2.1
      · rw [List.getElem?_append_right (by omega), hdl] at hu
        rw [if_pos ⟨rfl, by omega, by omega⟩, show st + j - (st + len * sz) = j - len * sz by omega]
        exact hu
    · rcases List.mem_append.1 (List.mem_of_getElem? hu) with hu | hu
      · exact ko.one u (List.mem_of_mem_drop hu)
      · exact hy1 u hu
  have hal : G'.al (S.next + 1) = (c, st) := by rw [hG']; simp [hnx]
  have hasz : G'.asz (S.next + 1) = sz := by rw [hG']; simp [hnx]
  have halen : G'.alen (S.next + 1) = len + ys.length := by rw [hG']; simp [hnx]
  have hpend : G'.pend (S.next + 1) = false := by rw [hG']; simp [hnx]
  have hlen' : (all.drop off).length = len := by rw [List.length_drop]; omega
  have htan : G'.ta S.next = (c, st + (len + ys.length) * sz, st + cap' * sz) := by rw [hG']; simp [hnx]
  refine ⟨G', fun j hj => ⟨(hw j hj).2.2, (hdeadr _ (by omega) (by omega)).2.2⟩, h.mono hx, ?_, ?_⟩
  · refine srel_re hs (dead := fun w => w = .arr b ∨ w = .tok k) (by simp) (by simp) (by simp) (by simp) hw hk hm (by rw [hG']; simp [grown, killA, hnx]) (fun b' cs hb => by simpa [grown, killA] using hb) ?_ ?_ ?_
    · intro b' sz' xs' hb'
      simp only [grown, killA, if_true] at hb'
      rw [Mp.get_set] at hb'
      split at hb'
      · rename_i e'; subst e'
        simp only [Option.some.injEq, Prod.mk.injEq] at hb'
        obtain ⟨rfl, rfl⟩ := hb'
        refine .inr ⟨by simp [grown, killA], hsz, fun y hy => ?_, fun _ => ⟨hasz, by rw [halen, List.length_append, hlen'], us.drop (off * sz) ++ news, ?_, ?_⟩⟩
        · rcases List.mem_append.1 hy with hy | hy
          · exact kel y (List.mem_of_mem_drop hy)
          · exact hye y hy
        · rw [flat_append, ← flat_drop kel]
          exact VRels.append (VRels.mono hx.toVExt (VRels.drop _ kv)) (VRels.mono hx.toVExt hyv)
        · intro j u hu
          rw [hal]
          have := hcells j u hu
          rw [hnx] at this
          exact this
      · rw [Mp.get_set] at hb'
        split at hb'
        · simp at hb'
        · rename_i hne
          exact .inl ⟨by simp; exact hne, hb'⟩
    · intro k' hk'
      simp only [grown, if_true] at hk'
      rw [Mp.get_set] at hk'
      split at hk'
      · rename_i e'
        right
        refine ⟨by rw [e']; simp [grown, killA], ?_⟩
        have e'' : k' = S.next := e'
        subst e''
        rw [htan]
        intro j j1 j2
        simp only at j1 j2
        obtain ⟨_, q2, q3⟩ := hdeadr j (by omega) j2
        refine ⟨by rw [hkind, if_pos ⟨rfl, by omega, j2⟩, if_neg (by omega), hnx], ?_, by rw [frz_setCells]; exact q3⟩
        rw [at_setCells (fun j hj => (hw j hj).2.2)]
        split
        · rw [List.getElem?_eq_getElem (by omega)]; rfl
        · exact q2
      · left
        obtain ⟨q1, q2⟩ := unTok_get hk'
        exact ⟨by simp; exact fun e => q2 (by rw [e]), q1⟩
    · intro b' hb'
      have hb2 : (if b' = G.next ∨ b' = G.next + 1 then false else G.pend b') = true := by rw [hG'] at hb'; exact hb'
      split at hb2
      · simp at hb2
      · refine ⟨by have := (hs.pc b' hb2).1; rw [hs.next]; exact this, fun _ => ⟨by simp [grown, killA], ?_⟩⟩
        simp only [grown, killA, if_true, Mp.get_set]
        rw [if_neg (by omega), if_neg (by rintro rfl; rw [hp] at hb2; simp at hb2)]
  · have hres := VRel.ar (G := G') (W := W.setCells c (st + len * sz) news) (S.next + 1) 0 (len + ys.length) (len + ys.length) cap' (.id S.next) ⟨c, st, none⟩ (by rw [hG']; simp [hnx]) hpend (by rw [hasz]; exact hsz) ⟨rfl, fun _ => by rw [hal]; simp⟩ (Nat.le_refl _) hroom (by rw [halen]; omega) (by simp) (by simp) (fun k' hk' => by
      simp only [Tk.id.injEq] at hk'
      subst hk'
      refine ⟨by rw [hG']; simp [hnx], fun _ => ?_⟩
      rw [htan, hal, halen, hasz]; simp)
    have hzl : ((all.drop off) ++ ys).length = len + ys.length := by rw [List.length_append, hlen']
    simp only [grown, killA, if_true, hzl]
    exact hres
theorem app_done (h : ARel G0 W0 G W rho E a nt) (hs : SRel G W S) {t0 t1 ty e : TypeId} {d1 : TypeDesc} {sz by_ : Nat} (h0 : P.underlying t0 = some (.slice e)) (h1 : P.underlying t1 = some d1) (hd1 : (∃ e1, d1 = .slice e1) ∨ d1 = .string)
    (hn : cSize P e = some sz) (hb : cBytes P e = some by_) (hz : cZeroOk P e = true) (hsz : 0 < sz) (hb0 : 0 < by_) {x y z : AV} {u v : Value} (hx : VRel G W x u) (hy : VRel G W y v) {arr : Bool} {ys : List AV} (hc : cont S y = some ys) (happ : appV S arr sz by_ x ys = some (z, S'))
    {s : Sem Next} (hrun : ∀ w W', (Builtin.append_ #[t0, t1] ty #[u, v]).run P W = .ok w W' → s.run P W = .ok (.value w) W') : Done P G0 W0 nt a s W (.val z) E S' := by
  unfold appV at happ
  split at happ
  · simp at happ
  rename_i hall
  have hall' : ys.all (elemV sz) = true := by simpa using hall
  obtain ⟨news, hyr, hyv, hy1⟩ := cont_rel (P := P) hs hy hc hsz hall'
  have hye : ∀ x ∈ ys, x.cells.length = sz := fun x hx => by simpa [elemV] using List.all_eq_true.1 hall' x hx
  have hnl' : news.length = ys.length * sz := by rw [VRels.length hyv, flat_len hye]
  cases hx with
  | nl sz0 =>
    simp only at happ
    split at happ
    · rename_i hy0
      simp only [Option.some.injEq, Prod.mk.injEq] at happ
      obtain ⟨rfl, rfl⟩ := happ
      rw [hy0] at hyr
      exact done_val h hs (hrun _ _ (run_app_zero (ty := ty) h0 h1 hd1 hn hyr (Nat.le_refl _))) (.nl sz0)
    · rename_i hy0
      split at happ
      · simp at happ
      · rename_i hroom
        simp only [Option.some.injEq] at happ
        have := grow_done h hs (ty := ty) h0 h1 hd1 hn hb hz hsz hb0 (base := none) (cap := 0) (xs := []) (olds := []) readsAs_nil .nil (by simp) (by simp) hyr hyv hy1 hye (by simp; omega) (by simpa using hroom) arr .no S rfl rfl rfl (fun _ _ h => h) (fun _ _ => rfl) hrun
        simp only [List.nil_append, happ] at this
        exact this
  | se sz0 ad =>
    simp only at happ
    split at happ
    · rename_i hy0
      simp only [Option.some.injEq, Prod.mk.injEq] at happ
      obtain ⟨rfl, rfl⟩ := happ
      rw [hy0] at hyr
      exact done_val h hs (hrun _ _ (run_app_zero (ty := ty) h0 h1 hd1 hn hyr (Nat.le_refl _))) (.se sz0 ad)
    · split at happ <;> simp at happ
  | sl sz0 xs t c o cap us hs0 hel hf hu1 huv hcap hnl hex hid =>
    simp only at happ
    split at happ
    · rename_i hy0
      simp only [Option.some.injEq, Prod.mk.injEq] at happ
      obtain ⟨rfl, rfl⟩ := happ
      rw [hy0] at hyr
      exact done_val h hs (hrun _ _ (run_app_zero (ty := ty) h0 h1 hd1 hn hyr hcap)) (.sl sz0 xs t c o cap us hs0 hel hf hu1 huv hcap hnl hex hid)
    · rename_i hy0
      split at happ
      · simp at happ
      · rename_i hroom
        have hroom' : room (xs.length + ys.length) by_ = true := by simpa using hroom
        split at happ
        · exact absurd rfl hnl
        · split at happ
          · rename_i hse
            subst hse
            simp only [Option.some.injEq] at happ
            have hce := (hex rfl).1
            have := grow_done h hs (ty := ty) h0 h1 hd1 hn hb hz hsz hb0 (base := some ⟨c, o, none⟩) (cap := cap) (xs := xs) (olds := us) (readsAs_self hf.cells (by rw [VRels.length huv, flat_len hel])) huv hu1 hel hyr hyv hy1 hye (by omega) hroom' arr .no S rfl rfl rfl (fun _ _ h => h) (fun _ _ => rfl) hrun
            rw [happ] at this
            exact this
          · simp at happ
        · rename_i k
          split at happ
          · rename_i hcond
            obtain ⟨rfl, rfl, htk⟩ := hcond
            simp only [Option.some.injEq] at happ
            by_cases hr : xs.length + ys.length ≤ cap
            · obtain ⟨G', g1, g2, g3, g4⟩ := room_sl h hs hs0 hel hf hu1 huv ((hid k rfl).2 (by omega)) htk hyv hy1 hye hr
              have hrn := run_app_room (ty := ty) (sCap := cap) h0 h1 hd1 hn hyr hnl' hy1 hr (fun j hj => (g1 j hj).1) (fun j hj => (g1 j hj).2)
              rw [happ] at g3 g4
              exact ⟨_, _, G', rho, .inl (hrun _ _ hrn), g4, g2, g3⟩
            · have := grow_done h hs (ty := ty) h0 h1 hd1 hn hb hz hsz hb0 (base := some ⟨c, o, none⟩) (cap := cap) (xs := xs) (olds := us) (readsAs_self hf.cells (by rw [VRels.length huv, flat_len hel])) huv hu1 hel hyr hyv hy1 hye (by omega) hroom' false (.id k) S rfl rfl rfl (fun _ _ h => h) (fun _ _ => rfl) hrun
              rw [happ] at this
              exact this
          · simp at happ
        · simp at happ
  | ar b off len cap cap' t ad hb' hp hs0 had hlen hcap hin hnl hex hid =>
    simp only at happ
    split at happ
    · rename_i hy0
      simp only [Option.some.injEq, Prod.mk.injEq] at happ
      obtain ⟨rfl, rfl⟩ := happ
      rw [hy0] at hyr
      exact done_val h hs (hrun _ _ (run_app_zero (ty := ty) h0 h1 hd1 hn hyr (by omega))) (.ar b off len cap cap' t ad hb' hp hs0 had hlen hcap hin hnl hex hid)
    · rename_i hy0
      split at happ
      · rename_i sz' all harr
        split at happ
        · simp at happ
        · rename_i hcond
          simp only [not_or, ne_eq, Decidable.not_not, Nat.not_lt] at hcond
          obtain ⟨rfl, hle⟩ := hcond
          obtain ⟨_, _, kel, krest⟩ := hs.arrs b sz' all harr
          obtain ⟨e1, e2, us, kv, ko⟩ := krest hp
          split at happ
          · rename_i hroom
            split at happ
            · rename_i hin'
              simp only [Option.some.injEq, Prod.mk.injEq] at happ
              obtain ⟨rfl, rfl⟩ := happ
              have had' := had.2 (by omega)
              rw [e1] at had'
              subst had'
              obtain ⟨g1, g2, g3, g4⟩ := room_ar h hs (t := t) (cap' := cap') hb' hp harr hsz hlen hcap hnl hex hid hyv hy1 hye hroom hin'
              have hrn := run_app_room (ty := ty) (sCap := cap') h0 h1 hd1 hn hyr hnl' hy1 (by omega) (fun j hj => (g1 j hj).1) (fun j hj => (g1 j hj).2)
              exact ⟨_, _, G, rho, .inl (hrun _ _ hrn), g4, g2, g3⟩
            · simp at happ
          · rename_i hnr
            split at happ
            · simp at happ
            · rename_i hr2
              simp only [Bool.or_eq_true, Bool.not_eq_true', not_or, Bool.not_eq_false] at hr2
              obtain ⟨rfl, hroom⟩ := hr2
              have hxl : ((all.drop off).take len).length = len := by rw [List.length_take, List.length_drop]; omega
              have hxe : ∀ x ∈ (all.drop off).take len, x.cells.length = sz' := fun x hx => kel x (List.mem_of_mem_drop (List.mem_of_mem_take hx))
              have hxv : VRels G W (flat ((all.drop off).take len)) ((us.drop (off * sz')).take (len * sz')) := by
                rw [← flat_take (fun x hx => kel x (List.mem_of_mem_drop hx)), ← flat_drop kel]
                exact VRels.take _ (VRels.drop _ kv)
              have hgrow : ∀ drop, cap' < len + ys.length → Done P G0 W0 nt a s W (.val (grown (killA S b) true sz' ((all.drop off).take len ++ ys) drop).1) E (grown (killA S b) true sz' ((all.drop off).take len ++ ys) drop).2 := by
                intro drop hg
                have hself : ReadsAs P sz' (.slice (some ad) ((all.drop off).take len).length cap') ((all.drop off).take len).length ((us.drop (off * sz')).take (len * sz')) W := by
                  rw [hxl]
                  by_cases hc0 : cap' = 0
                  · have hl0 : len = 0 := by omega
                    subst hl0
                    simpa using readsAs_nil (P := P) (W := W) (ad := some ad) (cap := cap') (sz := sz')
                  · have had' := had.2 (by omega)
                    rw [e1] at had'
                    subst had'
                    refine readsAs_self (ko.cells.sub _ _) ?_
                    rw [VRels.length hxv, flat_len hxe, hxl]
                exact grow_done h hs (ty := ty) h0 h1 hd1 hn hb hz hsz hb0 (base := some ad) (cap := cap') hself hxv (mem_sub ko.one _ _) hxe hyr hyv hy1 hye (by rw [hxl]; exact hg) (by rw [hxl]; exact hroom) true drop (killA S b) rfl rfl rfl
                  (fun b' v' hb' => by
                    simp only [killA, Mp.get_set] at hb'
                    split at hb'
                    · simp at hb'
                    · exact hb') (fun b' hb' => by simp only [killA, Mp.get_set]; rw [if_neg (fun e => by rw [e, hp] at hb'; simp at hb')]) (by rw [hxl]; exact hrun)
              split at happ
              · simp only [Option.some.injEq] at happ
                have hce := hex rfl
                have := hgrow .no (by omega)
                rw [happ] at this
                exact this
              · rename_i k
                split at happ
                · rename_i hcond
                  obtain ⟨htip, htk⟩ := hcond
                  simp only [Option.some.injEq] at happ
                  by_cases hr : len + ys.length ≤ cap'
                  · have had' := had.2 (by omega)
                    rw [e1] at had'
                    subst had'
                    obtain ⟨G', g1, g2, g3, g4⟩ := room_art h hs hp harr hsz ((hid k rfl).2 (by rw [e2]; omega)) htk hyv hy1 hye hr htip
                    have hrn := run_app_room (ty := ty) (sCap := cap') h0 h1 hd1 hn hyr hnl' hy1 hr (fun j hj => (g1 j hj).1) (fun j hj => (g1 j hj).2)
                    rw [happ] at g3 g4
                    exact ⟨_, _, G', rho, .inl (hrun _ _ hrn), g4, g2, g3⟩
                  · have := hgrow (.id k) (by omega)
                    rw [happ] at this
                    exact this
                · simp at happ
              · simp at happ
      · simp at happ
  | _ => simp at happ
end
end Go.Ab
