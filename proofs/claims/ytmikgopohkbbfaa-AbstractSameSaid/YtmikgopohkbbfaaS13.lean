/- Rows of zeros; slice literals; copies; clears. -/
import Derived.Test.YtmikgopohkbbfaaS12
namespace Go.Ab
open Go.RowKit (Below)
section
variable {P : Program} {an : An} {G0 : Gh} {W0 : World} {G G' : Gh} {W : World} {S S' : St} {rho : Nat → Nat} {E : Env} {a : Act} {nt : Nat}
theorem range_cells (c : Array Value) : (List.range c.size).map (fun i => c[i]!) = c.toList := by
  apply List.ext_getElem
  · simp
  · intro i h1 h2
    simp at h1
    simp [h1]
theorem made_rel {z : AV} {zv : Array Value} {sz : Nat} (hs : 0 < sz) (hz : zv.size = sz) (hv : VRels G W z.cells zv.toList) : ∀ n : Nat, VRels G W (flat (List.replicate n z)) ((List.range (n * sz)).map (fun i => zv[i % zv.size]!))
  | 0 => by simpa [flat] using VRels.nil
  | n + 1 => by
    have ih := made_rel hs hz hv n
    rw [List.replicate_succ', flat_append, Nat.succ_mul, List.range_add, List.map_append]
    refine VRels.append ih ?_
    have : (List.map (fun i => zv[i % zv.size]!) (List.map (n * sz + ·) (List.range sz))) = zv.toList := by
      rw [← range_cells zv, List.map_map, hz]
      apply List.map_congr_left
      intro i hi
      simp only [List.mem_range] at hi
      simp only [Function.comp]
      rw [Nat.mul_comm, Nat.mul_add_mod, Nat.mod_eq_of_lt hi]
    rw [this]
    simpa [flat] using hv
theorem made_one {zv : Array Value} {sz : Nat} (hs : 0 < sz) (hz : zv.size = sz) (h1 : ∀ u ∈ zv.toList, u.oneCell' = true) (n : Nat) : ∀ u ∈ (List.range n).map (fun i => zv[i % zv.size]!), u.oneCell' = true := by
  intro u hu
  simp only [List.mem_map, List.mem_range] at hu
  obtain ⟨i, _, rfl⟩ := hu
  have hlt : i % zv.size < zv.size := Nat.mod_lt _ (by omega)
  rw [getElem!_pos zv _ hlt]
  exact h1 _ (by simp)
theorem replicate_el {z : AV} {sz : Nat} (h : z.cells.length = sz) (n : Nat) : ∀ x ∈ List.replicate n z, x.cells.length = sz := fun x hx => by rw [List.eq_of_mem_replicate hx]; exact h
/-! ### A slice literal -/
def PartsOkL (an : An) : List (Nat × Operand) → List (Nat × O) → Prop
  | [], [] => True
  | (j, x) :: ps, (j', y) :: qs => j = j' ∧ cO an x = some y ∧ PartsOkL an ps qs
  | _, _ => False
theorem partsL_ok : ∀ {ps : List (Nat × Operand)} {qs : List (Nat × O)}, cPartsL an ps = some qs → PartsOkL an ps qs
  | [], qs, h => by simp [cPartsL] at h; subst h; trivial
  | (j, x) :: r, qs, h => by
    simp only [cPartsL, Option.bind_eq_some_iff, Option.map_eq_some_iff] at h
    obtain ⟨y, hy, ys, hys, rfl⟩ := h
    exact ⟨rfl, hy, partsL_ok hys⟩
theorem bsl_rel (hg : Globs an G0 W0) (h : ARel G0 W0 G W rho E a nt) {sz : Nat} (hsz : 0 < sz) :
    ∀ {ps : List (Nat × Operand)} {qs : List (Nat × O)} {xs xs' : List AV} {cells : Array Value}, PartsOkL an ps qs → (∀ x ∈ xs, x.cells.length = sz) →
      VRels G W (flat xs) cells.toList → (∀ u ∈ cells.toList, u.oneCell' = true) → bslV E sz xs qs = some xs' →
      ∃ cells' : Array Value, Instr.fill (fun i => some (i * sz, sz)) cells (ps.map fun p => (p.1, a.eval p.2)) = some cells' ∧ VRels G W (flat xs') cells'.toList ∧ (∀ u ∈ cells'.toList, u.oneCell' = true) ∧ (∀ x ∈ xs', x.cells.length = sz) ∧ xs'.length = xs.length
  | [], _ :: _, _, _, _, hf, _, _, _, _ => hf.elim
  | _ :: _, [], _, _, _, hf, _, _, _, _ => hf.elim
  | [], [], xs, xs', cells, hf, hel, hv, h1, hb => by
    simp [bslV] at hb; subst hb
    exact ⟨cells, rfl, hv, h1, hel, rfl⟩
  | (j, x) :: ps, (j', y) :: qs, xs, xs', cells, hf, hel, hv, h1, hb => by
    obtain ⟨rfl, hc, hrest⟩ := hf
    simp only [bslV] at hb
    split at hb
    · rename_i v hev
      split at hb
      · rename_i hcond
        obtain ⟨hj, hvl, htu⟩ := hcond
        have hvl' : v.cells.length = sz := by simpa [elemV] using hvl
        have hvr := op_rel hg h hc hev
        obtain ⟨hcr, hc1⟩ := cells_rel hvr htu
        have hcl : (a.eval x).cells.size = sz := by have := VRels.length hcr; simpa [hvl'] using this
        have hcs : cells.size = xs.length * sz := by have := VRels.length hv; rw [flat_len hel] at this; simpa using this
        have hfit : j * sz + sz ≤ cells.size := by rw [hcs, ← Nat.succ_mul]; exact Nat.mul_le_mul_right _ hj
        have hfo := fill_one (place := fun i => some (i * sz, sz)) (cells := cells) (r := ps.map fun p => (p.1, a.eval p.2)) (j := j) rfl hcl hfit
        have hfl := flat_set hel hvl' hj
        obtain ⟨cells', k1, k2, k3, k4, k5⟩ := bsl_rel hg h hsz hrest (xs := xs.set j v) (cells := (cells.toList.take (j * sz) ++ (a.eval x).cells.toList ++ cells.toList.drop (j * sz + sz)).toArray)
          (fun y hy => by
            rcases List.mem_or_eq_of_mem_set hy with hy | rfl
            · exact hel y hy
            · exact hvl')
          (by rw [hfl]; simpa using VRels.append (VRels.append (VRels.take (j * sz) hv) hcr) (VRels.drop (j * sz + sz) hv)) (fun u hu => by
            simp only [List.mem_append] at hu
            rcases hu with (hu | hu) | hu
            · exact h1 u (List.mem_of_mem_take hu)
            · exact hc1 u hu
            · exact h1 u (List.mem_of_mem_drop hu)) hb
        refine ⟨cells', ?_, k2, k3, k4, by rw [k5]; simp⟩
        simp only [List.map_cons]
        rw [hfo]; exact k1
      · simp at hb
    · simp at hb
/-! ### Copy and clear -/
/-- Elements of a row of one's own are overwritten. -/
theorem over_ar (h : ARel G0 W0 G W rho E a nt) (hs : SRel G W S) {sz b off : Nat} {all ys : List AV} {news : List Value} (hp : G.pend b = false) (harr : S.arrs.get b = some (sz, all))
    (hyv : VRels G W (flat ys) news) (hy1 : ∀ u ∈ news, u.oneCell' = true) (hye : ∀ x ∈ ys, x.cells.length = sz) (hin : off + ys.length ≤ all.length) :
    G.asz b = sz ∧ (∀ j, j < news.length → (at_ W (G.al b).1 ((G.al b).2 + off * sz + j)).isSome = true ∧ frz_ W (G.al b).1 ((G.al b).2 + off * sz + j) = false) ∧
      ARel G0 W0 G (W.setCells (G.al b).1 ((G.al b).2 + off * sz) news) rho E a nt ∧ SRel G (W.setCells (G.al b).1 ((G.al b).2 + off * sz) news) (setA S b sz (all.take off ++ ys ++ all.drop (off + ys.length))) := by
  obtain ⟨kb0, hsz, kel, krest⟩ := hs.arrs b sz all harr
  obtain ⟨e1, e2, us, kv, ko⟩ := krest hp
  have hul : us.length = all.length * sz := by rw [VRels.length kv, flat_len kel]
  have hnl' : news.length = ys.length * sz := by rw [VRels.length hyv, flat_len hye]
  have hfit : off * sz + news.length ≤ us.length := by
    rw [hnl', hul, ← Nat.add_mul]; exact Nat.mul_le_mul_right _ hin
  have hw : ∀ j, j < news.length → (G.kind (G.al b).1 ((G.al b).2 + off * sz + j) = .arr b) ∧ (at_ W (G.al b).1 ((G.al b).2 + off * sz + j)).isSome = true ∧ frz_ W (G.al b).1 ((G.al b).2 + off * sz + j) = false := by
    intro j hj
    obtain ⟨k1, k2, k3, _⟩ := ko (off * sz + j) _ (List.getElem?_eq_getElem (by omega))
    rw [← Nat.add_assoc] at k1 k2 k3
    exact ⟨k1, by rw [k2]; rfl, k3⟩
  have hc' := fun j hj => (⟨(hw j hj).1, (hw j hj).2.1⟩ : G.kind (G.al b).1 ((G.al b).2 + off * sz + j) = .arr b ∧ _)
  have hve := vext_set hs hc' (by simp) (by simp)
  have hset := ko.set (off := off * sz) (vs := news) hfit hy1
  have hnew : VRels G W (flat (all.take off ++ ys ++ all.drop (off + ys.length))) (us.take (off * sz) ++ news ++ us.drop (off * sz + news.length)) := by
    rw [flat_append, flat_append, ← flat_take kel, ← flat_drop kel, hnl', ← Nat.add_mul]
    exact VRels.append (VRels.append (VRels.take _ kv) hyv) (VRels.drop _ kv)
  refine ⟨e1, fun j hj => ⟨(hw j hj).2.1, (hw j hj).2.2⟩, arel_set h hs hc' (by simp) (by simp) (by simp), ?_⟩
  refine srel_set hs hc' (by simp) (by simp) (S' := setA S b sz (all.take off ++ ys ++ all.drop (off + ys.length))) rfl rfl (fun b' cs hb' => .inl ⟨by simp, hb'⟩) ?_ (fun b' hb' => ⟨rfl, by simp only [setA, Mp.get_set]; rw [if_neg (by rintro rfl; rw [hp] at hb'; simp at hb')]⟩)
  intro b' sz' xs' hb'
  simp only [setA, Mp.get_set] at hb'
  split at hb'
  · rename_i e; subst e
    simp only [Option.some.injEq, Prod.mk.injEq] at hb'
    obtain ⟨rfl, rfl⟩ := hb'
    refine .inr ⟨kb0, hsz, fun y hy => ?_, fun _ => ⟨e1, by rw [e2]; simp; omega, _, VRels.mono hve hnew, hset⟩⟩
    rcases List.mem_append.1 hy with hy | hy
    · rcases List.mem_append.1 hy with hy | hy
      · exact kel y (List.mem_of_mem_take hy)
      · exact hye y hy
    · exact kel y (List.mem_of_mem_drop hy)
  · rename_i hne
    exact .inl ⟨by simp; exact fun e => hne e.symm, hb'⟩
theorem run_copy' {t0 t1 ty e : TypeId} {sz n dLen dCap sLen : Nat} {c o : Nat} {y : Value} {news : List Value} (h0 : P.underlying t0 = some (.slice e)) (hn : cSize P e = some sz) (hy : ReadsAs P sz y sLen news W)
    (hm : n = Nat.min sLen dLen) (h1 : ∀ u ∈ news, u.oneCell' = true) (hc : ∀ j, j < (news.take (n * sz)).length → (at_ W c (o + j)).isSome = true ∧ frz_ W c (o + j) = false) :
    (Builtin.copy_ #[t0, t1] ty #[.slice (some ⟨c, o, none⟩) dLen dCap, y]).run P W = .ok (goInt n) (W.setCells c o (news.take (n * sz))) := by
  obtain ⟨y1, y2⟩ := hy W rfl
  have y3 := y2 n (by rw [hm]; exact Nat.min_le_left _ _)
  have hst := run_storeCells_cells (P := P) c o (news.take (n * sz)) 0 W (by simpa [at_] using fun j hj => (hc j hj).1) (by simpa [frz_] using fun j hj => (hc j hj).2) (fun u hu => h1 u (List.mem_of_mem_take hu))
  simp only [Nat.add_zero] at hst
  simp [Builtin.copy_, run_underlying h0, run_sizeOf hn, y1, ← hm, y3, hst]
theorem run_copy_zero {t0 t1 ty e : TypeId} {sz dLen dCap sLen : Nat} {base : Option Addr} {y : Value} {news : List Value} (h0 : P.underlying t0 = some (.slice e)) (hn : cSize P e = some sz) (hy : ReadsAs P sz y sLen news W)
    (hm : Nat.min sLen dLen = 0) : (Builtin.copy_ #[t0, t1] ty #[.slice base dLen dCap, y]).run P W = .ok (goInt 0) W := by
  obtain ⟨y1, y2⟩ := hy W rfl
  have y3 := y2 0 (Nat.zero_le _)
  simp only [Nat.zero_mul, List.take_zero] at y3
  cases base <;> simp [Builtin.copy_, run_underlying h0, run_sizeOf hn, y1, hm, y3, storeCells]
end
end Go.Ab
