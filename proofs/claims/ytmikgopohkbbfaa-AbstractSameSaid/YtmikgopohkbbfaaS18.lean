/- What makes new blocks; what overwrites. -/
import Derived.Test.YtmikgopohkbbfaaS17
namespace Go.Ab
open Go.RowKit (Below)
section
variable {P : Program} {an : An} {fid : FuncId} {G0 : Gh} {W0 : World} {G G' : Gh} {W : World} {S S' : St} {rho : Nat → Nat} {E E' : Env} {a : Act} {nt : Nat} {r : Rs}
theorem fresh_done (h : ARel G0 W0 G W rho E a nt) (hs : SRel G W S) {m : Bk} {d : Nat} {cs : List AV} {us : List Value} (hv : VRels G W cs us) (h1 : ∀ u ∈ us, u.oneCell' = true) (e : TypeId) {s : Sem Next}
    (hrun : s.run P W = .ok (.value (.pointer (some ⟨W.heap.size, 0, none⟩))) (W.alloc (.cells us.toArray e)))
    (hst : (match m with
      | .reg => match E.g.any (fun p => p.2 == d) with
        | true => none
        | false => some (Rs.adr d 0, ({ t := E.t, p := E.unp d, r := E.r.set d (some cs), g := E.g } : Env), S)
      | .heap => some (.val (.rf S.next 0), E, { objs := S.objs.set S.next (some cs), arrs := S.arrs, toks := S.toks, next := S.next + 1 })
      | .fz => some (.val (.fz cs), E, S)) = some (r, E', S')) : Done P G0 W0 nt a s W r E' S' := by
  cases m with
  | reg =>
    simp only at hst
    split at hst
    · simp at hst
    · rename_i hg
      simp only [Option.some.injEq, Prod.mk.injEq] at hst
      obtain ⟨rfl, rfl, rfl⟩ := hst
      obtain ⟨k1, k2⟩ := alloc_reg h hs (d := d) hv h1 e hg
      exact ⟨_, _, _, _, .inl hrun, ⟨by simp, by simp [Mp.get_set]⟩, k1, k2⟩
  | heap =>
    simp only [Option.some.injEq, Prod.mk.injEq] at hst
    obtain ⟨rfl, rfl, rfl⟩ := hst
    obtain ⟨k1, k2, k3⟩ := alloc_obj h hs hv h1 e
    exact ⟨_, _, _, _, .inl hrun, k3, k1, k2⟩
  | fz =>
    simp only [Option.some.injEq, Prod.mk.injEq] at hst
    obtain ⟨rfl, rfl, rfl⟩ := hst
    obtain ⟨k1, k2, k3, k4⟩ := alloc_fz h hs us e
    exact ⟨_, _, _, _, .inl hrun, .fz cs W.heap.size 0 us k4 h1 (VRels.mono k1.toVExt hv), k2, k3⟩
theorem newRow_fz (h : ARel G0 W0 G W rho E a nt) (hs : SRel G W S) {sz : Nat} {xs : List AV} {us : List Value} (hsz : 0 < sz) (hel : ∀ x ∈ xs, x.cells.length = sz) (hv : VRels G W (flat xs) us) (h1 : ∀ u ∈ us, u.oneCell' = true) (e : TypeId) {s : Sem Next}
    (hrun : s.run P W = .ok (.value (.slice (some ⟨W.heap.size, 0, none⟩) xs.length xs.length)) (W.alloc (.cells us.toArray e))) : Done P G0 W0 nt a s W (.val (.sl sz xs .ex)) E S := by
  obtain ⟨k1, k2, k3, k4⟩ := alloc_fz h hs us e
  refine ⟨_, _, _, _, .inl hrun, ?_, k2, k3⟩
  exact .sl sz xs .ex W.heap.size 0 xs.length us hsz hel k4 h1 (VRels.mono k1.toVExt hv) (Nat.le_refl _) (by simp) (fun _ => ⟨rfl, hs.hbase, fun j => by simp [Gh.newK]⟩) (by simp)
theorem mk_done (h : ARel G0 W0 G W rho E a nt) (hs : SRel G W S) {t e : TypeId} {sz by_ : Nat} {z : AV} (h0 : P.underlying t = some (.slice e)) (hn : cSize P e = some sz) (hb : cBytes P e = some by_) (hz : cZeroV P e = some z) (hzo : cZeroOk P e = true) (hsz : 0 < sz) {arr : Bool} {l c : Int} {kl kc : IntKind} {s : Sem Next}
    (hlc : 0 ≤ l ∧ l ≤ c) (hroom : room c.toNat by_ = true) (hmax : c ≤ 2 ^ 46) (hrun : ∀ w W', (Instr.makeSlice t (.int kl l) (.int kc c)).run P W = .ok w W' → s.run P W = .ok (.value w) W')
    (hst : (match arr with
      | true => some (Rs.val (.ar S.next 0 l.toNat c.toNat .ex), E, ({ objs := S.objs, arrs := S.arrs.set S.next (some (sz, List.replicate c.toNat z)), toks := S.toks, next := S.next + 1 } : St))
      | false => match decide (l = c) with
        | true => some (.val (.sl sz (List.replicate l.toNat z) .ex), E, S)
        | false => none) = some (r, E', S')) : Done P G0 W0 nt a s W r E' S' := by
  obtain ⟨i, zv, hi, hsi, hzi, hzr, hzl, hzs, hz1⟩ := zeroV_rel (P := P) G W hz hzo hn
  have hbi : i.bytes = by_ := by
    unfold cBytes at hb; rw [hi] at hb; simpa using hb
  have hc0 : ((c.toNat : Nat) : Int) = c := by omega
  have hr0 : c.toNat * by_ ≤ 2 ^ 46 := by simpa [room] using hroom
  have hb2 : (i.bytes : Int) * c ≤ 281474976710656 := by
    rw [hbi, ← hc0, ← Int.natCast_mul, Nat.mul_comm]; omega
  have hr := run_make (P := P) W t e i zv h0 hi hzi kl kc l c hlc.1 hlc.2 hb2 (by omega)
  have hcells : madeCells zv.cells (c.toNat * i.size) = ((List.range (c.toNat * sz)).map fun i => zv.cells[i % zv.cells.size]!).toArray := by
    apply Array.ext'
    simp [madeCells, hsi]
  rw [hcells] at hr
  have hv := made_rel (G := G) (W := W) hsz hzs hzr c.toNat
  have h1 := made_one hsz hzs hz1 (c.toNat * sz)
  have hel := replicate_el hzl c.toNat
  cases arr with
  | true =>
    simp only [Option.some.injEq, Prod.mk.injEq] at hst
    obtain ⟨rfl, rfl, rfl⟩ := hst
    obtain ⟨k1, k2, k3⟩ := alloc_arr h hs hsz hel hv h1 e l.toNat (by simp; omega)
    simp only [List.length_replicate] at k1 k2 k3
    exact ⟨_, _, _, _, .inl (hrun _ _ hr), k3, k1, k2⟩
  | false =>
    simp only at hst
    split at hst
    · rename_i hq
      have hq : l = c := by simpa using hq
      subst hq
      simp only [Option.some.injEq, Prod.mk.injEq] at hst
      obtain ⟨rfl, rfl, rfl⟩ := hst
      exact newRow_fz h hs hsz hel hv h1 e (by simpa using hrun _ _ hr)
    · simp at hst
theorem bsl_done (hg : Globs an G0 W0) (h : ARel G0 W0 G W rho E a nt) (hs : SRel G W S) {t e : TypeId} {sz len : Nat} {z : AV} {ps : Array (Nat × Operand)} {qs : List (Nat × O)} {xs : List AV} (h0 : P.underlying t = some (.slice e)) (hn : cSize P e = some sz) (hz : cZeroV P e = some z) (hzo : cZeroOk P e = true) (hsz : 0 < sz) (hlen : len * sz ≤ 2 ^ 24)
    (hp : cPartsL an ps.toList = some qs) (hb : bslV E sz (List.replicate len z) qs = some xs) {s : Sem Next}
    (hrun : ∀ w W', (Instr.buildSlice t len (ps.map fun p => (p.1, a.eval p.2))).run P W = .ok w W' → s.run P W = .ok (.value w) W') : Done P G0 W0 nt a s W (.val (.sl sz xs .ex)) E S := by
  obtain ⟨i, zv, hi, hsi, hzi, hzr, hzl, hzs, hz1⟩ := zeroV_rel (P := P) G W hz hzo hn
  have hv := made_rel (G := G) (W := W) hsz hzs hzr len
  have h1 := made_one hsz hzs hz1 (len * sz)
  obtain ⟨C, hC⟩ : ∃ C : Array Value, C = ((List.range (len * sz)).map fun i => zv.cells[i % zv.cells.size]!).toArray := ⟨_, rfl⟩
  obtain ⟨cells', f1, f2, f3, f4, f5⟩ := bsl_rel hg h hsz (cells := C) (partsL_ok hp) (replicate_el hzl len) (by rw [hC]; exact hv) (by rw [hC]; exact h1) hb
  have hxl : xs.length = len := by simpa using f5
  refine newRow_fz h hs hsz f4 f2 f3 e ?_
  rw [hxl]
  apply hrun
  have hbig : ¬ (16777216 < len * sz) := by omega
  have hne : (ps.map fun p => (p.1, a.eval p.2)).toList = ps.toList.map fun p => (p.1, a.eval p.2) := by simp
  have hArr : Array.map (fun j => (if len * sz = 0 then #[] else zv.cells)[j % (if len * sz = 0 then #[] else zv.cells).size]!) (Array.range (len * sz)) = C := by
    rw [hC]
    apply Array.ext'
    simp only [Array.toList_map, Array.toList_range]
    apply List.map_congr_left
    intro j hj
    simp only [List.mem_range] at hj
    rw [if_neg (by omega)]
  by_cases hl0 : len * sz = 0
  · simp only [hl0, if_true] at hArr
    have hC0 : C = #[] := by rw [hC, hl0]; rfl
    rw [hC0] at f1
    have hr0 : Array.range 0 = #[] := rfl
    simp [Instr.buildSlice, run_underlying h0, run_sizeOf hn, hl0, newRow, hr0, f1]
  · simp only [hl0, if_false] at hArr
    simp [Instr.buildSlice, run_underlying h0, run_sizeOf hn, hl0, hbig, zeroValue, typeInfo, hi, hzi, newRow, hArr, f1]
/-- A struct or an array, built. -/
theorem build_done (hg : Globs an G0 W0) (h : ARel G0 W0 G W rho E a nt) (hs : SRel G W S) {t : TypeId} {ps : Array (Nat × Operand)} {qs : List (Nat × Nat × O)} {z cs : List AV} (hz : cZero P t = some z)
    (hp : (∃ fields places, P.underlying t = some (.struct fields) ∧ fields.toList.mapM (fun f => (P.info? f.type).map fun i => (f.offset, i.size)) = some places ∧ cPartsS an places ps.toList = some qs) ∨ (∃ l e n, P.underlying t = some (.array l e) ∧ cSize P e = some n ∧ cPartsA an n ps.toList = some qs))
    (hb : buildV E z qs = some cs) {s : Sem Next} (hrun : ∀ w, (Instr.build t (ps.map fun p => (p.1, a.eval p.2))).run P W = .ok w W → s.run P W = .ok (.value w) W) : Done P G0 W0 nt a s W (.val (.ag cs)) E S := by
  obtain ⟨i, zv, hi, hzi, hzr, hz1⟩ := zero_rel (P := P) G W hz
  have hne : (ps.map fun p => (p.1, a.eval p.2)).toList = ps.toList.map fun p => (p.1, a.eval p.2) := by simp
  have key : ∀ place, PartsOk an place ps.toList qs → ∃ cells' : Array Value, Instr.fill place zv.cells (ps.toList.map fun p => (p.1, a.eval p.2)) = some cells' ∧ VRels G W cs cells'.toList ∧ ∀ u ∈ cells'.toList, u.oneCell' = true :=
    fun place hpl => build_rel hg h hpl hzr hz1 hb
  rcases hp with ⟨fields, places, h0, hm, hq⟩ | ⟨l, e, n, h0, hn, hq⟩
  · have hpo : PartsOk an (places.toArray[·]?) ps.toList qs := by
      clear hb key hne hrun
      generalize ps.toList = l at hq
      induction l generalizing qs with
      | nil => simp [cPartsS] at hq; subst hq; trivial
      | cons p l ih =>
        obtain ⟨j, x⟩ := p
        simp only [cPartsS, Option.bind_eq_some_iff, Option.map_eq_some_iff] at hq
        obtain ⟨pl, hpl, y, hy, ys, hys, rfl⟩ := hq
        exact ⟨by simpa using hpl, hy, ih hys⟩
    obtain ⟨cells', f1, f2, f3⟩ := key _ hpo
    have hbt : P.built t (ps.map fun p => (p.1, a.eval p.2)).toList = some cells' := by
      unfold Program.built
      rw [hi, h0]
      simp only [hzi, hm, hne]
      exact f1
    exact done_val h hs (hrun _ (run_build W t _ _ hbt)) (by simpa using VRel.ag cs cells'.toList f3 f2)
  · have hpo : PartsOk an (fun j => some (j * n, n)) ps.toList qs := by
      clear hb key hne hrun
      generalize ps.toList = l at hq
      induction l generalizing qs with
      | nil => simp [cPartsA] at hq; subst hq; trivial
      | cons p l ih =>
        obtain ⟨j, x⟩ := p
        simp only [cPartsA, Option.bind_eq_some_iff, Option.map_eq_some_iff] at hq
        obtain ⟨y, hy, ys, hys, rfl⟩ := hq
        exact ⟨rfl, hy, ih hys⟩
    obtain ⟨cells', f1, f2, f3⟩ := key _ hpo
    unfold cSize at hn
    simp only [Option.map_eq_some_iff] at hn
    obtain ⟨ie, hie, hsz⟩ := hn
    have hbt : P.built t (ps.map fun p => (p.1, a.eval p.2)).toList = some cells' := by
      unfold Program.built
      rw [hi, h0]
      simp only [hzi, hie, hne, hsz]
      exact f1
    exact done_val h hs (hrun _ (run_build W t _ _ hbt)) (by simpa using VRel.ag cs cells'.toList f3 f2)
/-- A row is marked: what is read stays. -/
theorem frz_freeze (W : World) (ad : Addr) (n : Nat) {c j : Nat} (hc : c ≠ ad.block) : frz_ (W.freeze ad n) c j = frz_ W c j := by
  refine World.frozen?_of_block (w := W) (w' := W.freeze ad n) ?_
  unfold World.freeze
  split
  · rfl
  · show (W.heap.modify ad.block _)[c]? = W.heap[c]?
    rw [Array.getElem?_modify, if_neg (by omega)]
theorem at_freeze (W : World) (ad : Addr) (n : Nat) (c j : Nat) : at_ (W.freeze ad n) c j = at_ W c j := by
  by_cases hn : n = 0
  · subst hn; rfl
  · have hh : (W.freeze ad n).heap[c]? = if ad.block = c then (W.heap[c]?).map (fun o => match o with
      | .cells c elem (lo, hi) => .cells c elem (if lo == hi then (ad.off, ad.off + n) else (min lo ad.off, max hi (ad.off + n)))
      | o => o) else W.heap[c]? := by
      unfold World.freeze
      rw [if_neg hn]
      exact Array.getElem?_modify
    unfold at_ World.cell?
    show (match (W.freeze ad n).heap[c]? with | some (.cells c _ _) => _ | _ => _) = _
    rw [hh]
    by_cases hb : ad.block = c
    · rw [if_pos hb]
      show _ = (match W.heap[c]? with | some (.cells c _ _) => _ | _ => _)
      cases W.heap[c]? with
      | none => rfl
      | some o => cases o <;> rfl
    · rw [if_neg hb]
      rfl
theorem below_freeze {B : Nat} {w0 w : World} (h : Below B w0 w) {ad : Addr} (hb : B ≤ ad.block) (n : Nat) : Below B w0 (w.freeze ad n) := by
  have hsz : (w.freeze ad n).heap.size = w.heap.size := by
    unfold World.freeze; split
    · rfl
    · simp
  have hbl : ∀ k, k < B → (w.freeze ad n).heap[k]? = w.heap[k]? := by
    intro k hk
    unfold World.freeze; split
    · rfl
    · show (w.heap.modify ad.block _)[k]? = _
      rw [Array.getElem?_modify, if_neg (by omega)]
  refine ⟨?_, ?_, ?_, by rw [hsz]; exact h.size, fun k hk => (hbl k hk).trans (h.block k hk)⟩
  · rw [← h.os]; unfold World.freeze; split <;> rfl
  · rw [← h.tape]; unfold World.freeze; split <;> rfl
  · rw [← h.output]; unfold World.freeze; split <;> rfl
theorem mark_done (h : ARel G0 W0 G W rho E a nt) (hs : SRel G W S) {sz : Nat} {xs : List AV} {u : Value} (hv : VRel G W (.sl sz xs .ex) u) {s : Sem Next}
    (hrun : ∀ c o n m W', u = .slice (some ⟨c, o, none⟩) n m → (markStringish ⟨c, o, none⟩).run P W = .ok () W' → s.run P W = .ok (.value u) W') : Done P G0 W0 nt a s W (.val (.sl sz xs .ex)) E S := by
  have hv0 := hv
  cases hv with
  | sl _ _ _ c o cap us h0 hel hf h1 hv hcap hnl hex hid =>
    obtain ⟨hx1, hx2, hx3⟩ := hex rfl
    cases hsh : W.shape? c with
    | none =>
      refine done_val h hs (hrun c o _ _ W rfl ?_) hv0
      simp [markStringish, hsh]
    | some q =>
      obtain ⟨e, n⟩ := q
      have hr : (markStringish ⟨c, o, none⟩).run P W = .ok () (W.freeze ⟨c, n, none⟩ 1) := by simp [markStringish, hsh]
      have hoth : ∀ b j, G.kind b j ≠ .fz → b ≠ c := fun b j hk hb => hk (hb ▸ hx3 j)
      have hx : Ext G W G (W.freeze ⟨c, n, none⟩ 1) :=
        { fz := fun b j hk => ⟨hk, fun u hu => by rw [at_freeze]; exact hu⟩
          next := Nat.le_refl _, mu := fun _ _ _ => rfl, al := fun _ _ _ => rfl, asz := fun _ _ _ => rfl, alen := fun _ _ _ => rfl, ta := fun _ _ => rfl, pend := fun _ _ h => h, base := rfl
          below := below_freeze (Below.refl _ _) hx2 1
          pr := fun b j hk => ⟨hk, at_freeze _ _ _ _ _, frz_freeze _ _ _ (hoth b j (by rw [hk]; simp))⟩
          pend' := fun _ _ => rfl, pc' := fun _ _ => rfl }
      have hown : ∀ {w : Own} {b o' : Nat} {us' : List Value}, w ≠ .fz → Owns G W w b o' us' → Owns G (W.freeze ⟨c, n, none⟩ 1) w b o' us' := by
        intro w b o' us' hw hk j u hu
        obtain ⟨k1, k2, k3, k4⟩ := hk j u hu
        exact ⟨k1, by rw [at_freeze]; exact k2, by rw [frz_freeze _ _ _ (hoth b _ (by rw [k1]; exact hw))]; exact k3, k4⟩
      have hsz : (W.freeze ⟨c, n, none⟩ 1).heap.size = W.heap.size := by unfold World.freeze; simp
      refine ⟨_, _, G, rho, .inl (hrun c o _ _ _ rfl hr), VRel.mono hx.toVExt hv0, h.mono hx, ?_⟩
      exact { next := hs.next
              objs := fun b cs hb => let ⟨k1, k2⟩ := hs.objs b cs hb; ⟨k1, fun hp => let ⟨us, p1, p2⟩ := k2 hp; ⟨us, VRels.mono hx.toVExt p1, hown (by simp) p2⟩⟩
              arrs := fun b sz xs hb => let ⟨k1, k2, k3, k4⟩ := hs.arrs b sz xs hb; ⟨k1, k2, k3, fun hp => let ⟨e1, e2, us, p1, p2⟩ := k4 hp; ⟨e1, e2, us, VRels.mono hx.toVExt p1, hown (by simp) p2⟩⟩
              toks := fun k hk => let ⟨k1, k2⟩ := hs.toks k hk; ⟨k1, fun j j1 j2 => let ⟨q1, q2, q3⟩ := k2 j j1 j2; ⟨q1, by rw [at_freeze]; exact q2, by rw [frz_freeze _ _ _ (hoth _ j (by rw [q1]; simp))]; exact q3⟩⟩
              fresh := fun b j hk => by rw [hsz]; exact hs.fresh b j hk
              base := hs.base
              hbase := by rw [hsz]; exact hs.hbase
              pc := hs.pc }
end
end Go.Ab
