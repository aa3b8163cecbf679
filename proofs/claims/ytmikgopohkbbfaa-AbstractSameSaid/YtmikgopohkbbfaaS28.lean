/- A row of one's own, handed on as one that is read. -/
import Derived.Test.YtmikgopohkbbfaaS27
namespace Go.Ab
open Go.RowKit (Below)
section
variable {P : Program} {an : An} {G G' : Gh} {W : World} {S S' : St}
/-- The cells of a row become cells that are read. -/
def Gh.frz (G : Gh) (a : Nat) : Gh := { G with kind := fun c j => if G.kind c j = .arr a then .fz else G.kind c j }
theorem ext_frz (G : Gh) (W : World) (a : Nat) : Ext G W (G.frz a) W where
  fz c j h := ⟨by simp [Gh.frz, h], fun u hu => hu⟩
  next := Nat.le_refl _
  mu _ _ _ := rfl
  al _ _ _ := rfl
  asz _ _ _ := rfl
  alen _ _ _ := rfl
  ta _ _ := rfl
  pend _ _ h := h
  base := rfl
  below := Below.refl _ _
  pr c j h := ⟨by simp [Gh.frz, h], rfl, rfl⟩
  pend' _ _ := rfl
  pc' _ _ := rfl
theorem Owns.frz {w : Own} {c o : Nat} {us : List Value} {a : Nat} (h : Owns G W w c o us) (hw : w ≠ .arr a) : Owns (G.frz a) W w c o us := by
  intro j u hu
  obtain ⟨k1, k2, k3, k4⟩ := h j u hu
  exact ⟨by simp only [Gh.frz]; rw [k1, if_neg hw], k2, k3, k4⟩
theorem srel_frz (hs : SRel G W S) (a : Nat) (hpa : G.pend a = false) : SRel (G.frz a) W (killA S a) where
  next := hs.next
  objs b cs hb := let ⟨k1, k2⟩ := hs.objs b cs hb; ⟨k1, fun hp => let ⟨us, p1, p2⟩ := k2 hp; ⟨us, VRels.mono (ext_frz G W a).toVExt p1, p2.frz (by simp)⟩⟩
  arrs b sz xs hb := by
    simp only [killA, Mp.get_set] at hb
    split at hb
    · simp at hb
    · rename_i hne
      obtain ⟨k1, k2, k3, k4⟩ := hs.arrs b sz xs hb
      exact ⟨k1, k2, k3, fun hp => let ⟨e1, e2, us, p1, p2⟩ := k4 hp; ⟨e1, e2, us, VRels.mono (ext_frz G W a).toVExt p1, p2.frz (by simpa using hne)⟩⟩
  toks k hk := let ⟨k1, k2⟩ := hs.toks k hk; ⟨k1, fun j j1 j2 => let ⟨q1, q2, q3⟩ := k2 j j1 j2; ⟨by simp only [Gh.frz] at j1 j2 ⊢; rw [q1, if_neg (by simp)], q2, q3⟩⟩
  fresh c j h := by
    refine hs.fresh c j (fun e => h ?_)
    simp only [Gh.frz]; rw [e, if_neg (by simp)]
  base c j h1 h2 := by
    refine hs.base c j (fun e => h1 ?_) (fun e => h2 ?_)
    · simp only [Gh.frz]; rw [e, if_neg (by simp)]
    · simp only [Gh.frz]; rw [e, if_neg (by simp)]
  hbase := hs.hbase
  pc o ho := by
    obtain ⟨k1, k2, k3⟩ := hs.pc o ho
    refine ⟨k1, k2, ?_⟩
    rw [killA, Mp.get_set, if_neg ?_]
    · exact k3
    · rintro rfl
      have : G.pend o = true := ho
      rw [hpa] at this; simp at this
/-- What freezing keeps. -/
def FzOk (G : Gh) (W : World) (S' : St) (R : Gh → Prop) : Prop := ∃ G', Ext G W G' W ∧ SRel G' W S' ∧ R G'
theorem flat_cons (x : AV) (xs : List AV) : flat (x :: xs) = x.cells ++ flat xs := by simp [flat]
theorem VRels.split {G : Gh} {W : World} {xs ys : List AV} {us : List Value} (h : VRels G W (xs ++ ys) us) : ∃ u1 u2, us = u1 ++ u2 ∧ VRels G W xs u1 ∧ VRels G W ys u2 := by
  refine ⟨us.take xs.length, us.drop xs.length, (List.take_append_drop _ _).symm, ?_, ?_⟩
  · have := VRels.take xs.length h
    rwa [List.take_left] at this
  · have := VRels.drop xs.length h
    rwa [List.drop_left] at this
theorem frz_all : ∀ (f : Nat),
    (∀ {G : Gh} {S S' : St} {v v' : AV} {u : Value}, VRel G W v u → SRel G W S → frz f S v = some (v', S') → FzOk G W S' (fun G' => VRel G' W v' u)) ∧
    (∀ {G : Gh} {S S' : St} {vs vs' : List AV} {us : List Value}, VRels G W vs us → SRel G W S → frzs f S vs = some (vs', S') → FzOk G W S' (fun G' => VRels G' W vs' us)) ∧
    (∀ {G : Gh} {S S' : St} {v v' : AV} {us : List Value}, VRels G W v.cells us → (∀ u ∈ us, u.oneCell' = true) → SRel G W S → frz f S v = some (v', S') → FzOk G W S' (fun G' => VRels G' W v'.cells us)) ∧
    (∀ {G : Gh} {S S' : St} {vs vs' : List AV} {us : List Value}, VRels G W (flat vs) us → (∀ u ∈ us, u.oneCell' = true) → SRel G W S → frzs f S vs = some (vs', S') → vs'.length = vs.length ∧ (∀ sz, (∀ x ∈ vs, x.cells.length = sz) → ∀ x ∈ vs', x.cells.length = sz) ∧ FzOk G W S' (fun G' => VRels G' W (flat vs') us))
  | 0 => ⟨fun _ _ h => by simp [frz] at h, fun _ _ h => by simp [frzs] at h, fun _ _ _ h => by simp [frz] at h, fun _ _ _ h => by simp [frzs] at h⟩
  | f + 1 => by
    obtain ⟨i1, i2, i3, i4⟩ := frz_all f
    have h1 : ∀ {G : Gh} {S S' : St} {v v' : AV} {u : Value}, VRel G W v u → SRel G W S → frz (f + 1) S v = some (v', S') → FzOk G W S' (fun G' => VRel G' W v' u) := by
      intro G S S' v v' u hv hs h
      have triv : some (v, S) = some (v', S') → FzOk G W S' (fun G' => VRel G' W v' u) := by
        intro h
        simp only [Option.some.injEq, Prod.mk.injEq] at h
        obtain ⟨rfl, rfl⟩ := h
        exact ⟨G, Ext.refl _ _, hs, hv⟩
      cases hv with
      | ag cs us k1 k2 =>
        simp only [frz] at h
        split at h
        · rename_i ys S1 he
          simp only [Option.some.injEq, Prod.mk.injEq] at h
          obtain ⟨rfl, rfl⟩ := h
          obtain ⟨G', e1, e2, e3⟩ := i2 k2 hs he
          exact ⟨G', e1, e2, .ag _ _ k1 e3⟩
        · simp at h
      | tu cs us k2 =>
        simp only [frz] at h
        split at h
        · rename_i ys S1 he
          simp only [Option.some.injEq, Prod.mk.injEq] at h
          obtain ⟨rfl, rfl⟩ := h
          obtain ⟨G', e1, e2, e3⟩ := i2 k2 hs he
          exact ⟨G', e1, e2, .tu _ _ e3⟩
        · simp at h
      | ar b off len cap cap' t ad hb hp hsz had hlen hcap hin hnl hex hid =>
        simp only [frz] at h
        split at h
        · rename_i sz xs harr
          split at h
          · rename_i hle
            split at h
            · rename_i ys S1 he
              simp only [Option.some.injEq, Prod.mk.injEq] at h
              obtain ⟨rfl, rfl⟩ := h
              obtain ⟨_, hsz0, hel, hrest⟩ := hs.arrs b sz xs harr
              obtain ⟨e1, e2, us, kv, ko⟩ := hrest hp
              have hx1 := ext_frz G W b
              have hel' : ∀ x ∈ (xs.drop off).take len, x.cells.length = sz := fun x hx => hel x (List.mem_of_mem_drop (List.mem_of_mem_take hx))
              have hv1 : VRels (G.frz b) W (flat ((xs.drop off).take len)) ((us.drop (off * sz)).take (len * sz)) := by
                rw [← flat_take (fun x hx => hel x (List.mem_of_mem_drop hx)), ← flat_drop hel]
                exact VRels.mono hx1.toVExt (VRels.take _ (VRels.drop _ kv))
              have hone : ∀ u ∈ (us.drop (off * sz)).take (len * sz), u.oneCell' = true := mem_sub ko.one _ _
              obtain ⟨q1, q2, G', q3, q4, q5⟩ := i4 hv1 hone (srel_frz hs b hp) he
              have hyl : ys.length = len := by rw [q1]; simp; omega
              refine ⟨G', hx1.trans q3, q4, ?_⟩
              have hfz : Froz G' W (G.al b).1 ((G.al b).2 + off * sz) ((us.drop (off * sz)).take (len * sz)) := by
                intro j u hu
                rw [List.getElem?_take] at hu
                split at hu
                · rw [List.getElem?_drop] at hu
                  obtain ⟨k1, k2, _, _⟩ := ko _ _ hu
                  rw [← Nat.add_assoc] at k1 k2
                  obtain ⟨k3, k4⟩ := q3.fz _ _ (show (G.frz b).kind _ _ = .fz by simp only [Gh.frz]; rw [if_pos k1])
                  exact ⟨k3, k4 u k2⟩
                · simp at hu
              have htk : ∀ k, frzTk (off + len == xs.length) t = .id k → t = .id k ∧ off + len = xs.length := by
                intro k hk
                cases t <;> simp [frzTk] at hk
                split at hk
                · rename_i hq; exact ⟨hk, hq⟩
                · simp at hk
              have hnl' : frzTk (off + len == xs.length) t ≠ .nl := by
                cases t <;> simp [frzTk]
                split <;> simp
              have hnx' : frzTk (off + len == xs.length) t ≠ .ex := by
                cases t <;> simp [frzTk]
                split <;> simp
              generalize frzTk (off + len == xs.length) t = tk at htk hnl' hnx' ⊢
              by_cases hc0 : 0 < cap'
              · have hade := had.2 hc0
                subst hade
                rw [← hyl, e1]
                refine .sl sz ys _ _ _ cap' _ hsz0 (q2 sz hel') hfz hone q5 (by omega) hnl' (fun he => absurd he hnx') (fun k hk => ?_)
                obtain ⟨ht, hq⟩ := htk k hk
                obtain ⟨k1, k2⟩ := hid k ht
                refine ⟨Nat.lt_of_lt_of_le k1 (hx1.trans q3).next, fun hl => ?_⟩
                rw [(hx1.trans q3).ta k k1, k2 (by omega), e1, e2, hyl]
                have w1 : (G.al b).2 + off * sz + len * sz = (G.al b).2 + xs.length * sz := by rw [Nat.add_assoc, ← Nat.add_mul, hq]
                have w2 : (G.al b).2 + off * sz + cap' * sz = (G.al b).2 + (off + cap') * sz := by rw [Nat.add_assoc, ← Nat.add_mul]
                rw [w1, w2]
              · have hl0 : len = 0 := by omega
                have hc00 : cap' = 0 := by omega
                obtain ⟨ab, ao, as⟩ := ad
                obtain rfl : as = none := had.1
                have hy0 : ys = [] := by rw [← List.length_eq_zero_iff]; omega
                rw [← hyl, hc00, hy0]
                refine .sl sz [] _ ab ao 0 [] hsz0 (by simp) (by intro j u hu; simp at hu) (by simp) .nil (Nat.le_refl _) hnl' (fun he => absurd he hnx') (fun k hk => ?_)
                obtain ⟨ht, hq⟩ := htk k hk
                exact ⟨Nat.lt_of_lt_of_le (hid k ht).1 (hx1.trans q3).next, by simp⟩
            · simp at h
          · simp at h
        · simp at h
      | _ => simp only [frz] at h; exact triv h
    refine ⟨h1, ?_, ?_, ?_⟩
    · intro G S S' vs vs' us hv hs h
      cases hv with
      | nil =>
        simp only [frzs, Option.some.injEq, Prod.mk.injEq] at h
        obtain ⟨rfl, rfl⟩ := h
        exact ⟨G, Ext.refl _ _, hs, .nil⟩
      | cons v u vs us k1 k2 =>
        simp only [frzs] at h
        split at h
        · rename_i v1 S1 ha
          split at h
          · rename_i r1 S2 hb
            simp only [Option.some.injEq, Prod.mk.injEq] at h
            obtain ⟨rfl, rfl⟩ := h
            obtain ⟨G1, e1, e2, e3⟩ := i1 k1 hs ha
            obtain ⟨G2, d1, d2, d3⟩ := i2 (VRels.mono e1.toVExt k2) e2 hb
            exact ⟨G2, e1.trans d1, d2, .cons _ _ _ _ (e3.mono d1.toVExt) d3⟩
          · simp at h
        · simp at h
    · intro G S S' v v' us hv hu1 hs h
      by_cases hag : ∃ cs, v = .ag cs
      · obtain ⟨cs, rfl⟩ := hag
        simp only [frz] at h
        split at h
        · rename_i ys S1 he
          simp only [Option.some.injEq, Prod.mk.injEq] at h
          obtain ⟨rfl, rfl⟩ := h
          exact i2 hv hs he
        · simp at h
      · have hc : v.cells = [v] := by
          cases v <;> first | rfl | exact absurd ⟨_, rfl⟩ hag
        have hc' : v'.cells = [v'] := by
          cases v <;> simp only [frz] at h
          case ag cs => exact absurd ⟨cs, rfl⟩ hag
          case ar =>
            split at h
            · split at h
              · split at h
                · simp only [Option.some.injEq, Prod.mk.injEq] at h
                  obtain ⟨rfl, rfl⟩ := h; rfl
                · simp at h
              · simp at h
            · simp at h
          case tu =>
            split at h
            · simp only [Option.some.injEq, Prod.mk.injEq] at h
              obtain ⟨rfl, rfl⟩ := h; rfl
            · simp at h
          all_goals
            simp only [Option.some.injEq, Prod.mk.injEq] at h
            obtain ⟨rfl, rfl⟩ := h; rfl
        rw [hc] at hv
        rw [hc']
        cases hv with
        | cons _ u _ us k1 k2 =>
          cases k2
          obtain ⟨G1, e1, e2, e3⟩ := h1 k1 hs h
          exact ⟨G1, e1, e2, .cons _ _ _ _ e3 .nil⟩
    · intro G S S' vs vs' us hv hu1 hs h
      cases vs with
      | nil =>
        simp only [frzs, Option.some.injEq, Prod.mk.injEq] at h
        obtain ⟨rfl, rfl⟩ := h
        exact ⟨rfl, fun _ h => h, G, Ext.refl _ _, hs, hv⟩
      | cons v r =>
        rw [flat_cons] at hv
        obtain ⟨u1, u2, rfl, k1, k2⟩ := VRels.split hv
        simp only [frzs] at h
        split at h
        · rename_i v1 S1 ha
          split at h
          · rename_i r1 S2 hb
            simp only [Option.some.injEq, Prod.mk.injEq] at h
            obtain ⟨rfl, rfl⟩ := h
            obtain ⟨G1, e1, e2, e3⟩ := i3 k1 (fun u hu => hu1 u (by simp [hu])) hs ha
            obtain ⟨q1, q2, G2, d1, d2, d3⟩ := i4 (VRels.mono e1.toVExt k2) (fun u hu => hu1 u (by simp [hu])) e2 hb
            have hl := VRels.length k1
            have hl' := VRels.length e3
            refine ⟨by simp [q1], fun sz hx y hy => ?_, G2, e1.trans d1, d2, by rw [flat_cons]; exact VRels.append (VRels.mono d1.toVExt e3) d3⟩
            rcases List.mem_cons.1 hy with rfl | hy
            · rw [← hl', hl]; exact hx v (by simp)
            · exact q2 sz (fun x hx' => hx x (by simp [hx'])) y hy
          · simp at h
        · simp at h
end
end Go.Ab
