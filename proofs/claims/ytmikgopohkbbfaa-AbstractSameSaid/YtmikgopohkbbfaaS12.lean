/- Values that are built; new variables. -/
import Derived.Test.YtmikgopohkbbfaaS11
import Derived.Great.BuildSlice
namespace Go.Ab
open Go.RowKit (Below)
theorem fold_set (off : Nat) : ∀ (l : List Value) (k : Nat) (cells : Array Value), off + k + l.length ≤ cells.size →
    ((l.zipIdx k).foldl (fun cs (p : Value × Nat) => cs.setIfInBounds (off + p.2) p.1) cells).toList = cells.toList.take (off + k) ++ l ++ cells.toList.drop (off + k + l.length)
  | [], k, cells, h => by simp
  | v :: r, k, cells, h => by
    simp only [List.length_cons] at h
    have ih := fold_set off r (k + 1) (cells.setIfInBounds (off + k) v) (by simp; omega)
    simp only [List.zipIdx_cons, List.foldl_cons]
    rw [ih]
    have hlt : off + k < cells.size := by omega
    have e1 : (cells.setIfInBounds (off + k) v).toList = cells.toList.set (off + k) v := by simp
    rw [e1, List.take_set, List.drop_set_of_lt (by omega)]
    rw [show off + (k + 1) = off + k + 1 by omega, List.take_add_one, List.getElem?_eq_getElem (by simpa using hlt)]
    rw [List.set_append_right _ _ (by simp; omega)]
    simp only [Option.toList_some, List.length_take, Array.length_toList, Nat.min_eq_left (show off + k ≤ cells.size by omega), Nat.sub_self, List.set_cons_zero, List.append_assoc, List.cons_append, List.nil_append, List.length_cons]
    rw [show off + k + 1 + r.length = off + k + (r.length + 1) by omega]
section
variable {P : Program} {an : An} {G0 : Gh} {W0 : World} {G G' : Gh} {W : World} {S S' : St} {rho : Nat → Nat} {E : Env} {a : Act} {nt : Nat}
/-- One part is filled in. -/
theorem fill_one {place : Nat → Option (Nat × Nat)} {cells : Array Value} {j off n : Nat} {v : Value} {r : List (Nat × Value)} (hp : place j = some (off, n)) (hv : v.cells.size = n) (hf : off + n ≤ cells.size) :
    Instr.fill place cells ((j, v) :: r) = Instr.fill place (cells.toList.take off ++ v.cells.toList ++ cells.toList.drop (off + n)).toArray r := by
  have hfold := fold_set off v.cells.toList 0 cells (by simp [hv]; exact hf)
  simp only [Nat.add_zero, Array.length_toList, hv] at hfold
  simp only [Instr.fill, hp]
  rw [if_neg (by simp [hv]; omega)]
  congr 1
  apply Array.ext'
  rw [← hfold, ← Array.foldl_toList]
  simp
def PartsOk (an : An) (place : Nat → Option (Nat × Nat)) : List (Nat × Operand) → List (Nat × Nat × O) → Prop
  | [], [] => True
  | (j, x) :: ps, (off, n, y) :: qs => place j = some (off, n) ∧ cO an x = some y ∧ PartsOk an place ps qs
  | _, _ => False
theorem build_rel (hg : Globs an G0 W0) (h : ARel G0 W0 G W rho E a nt) {place : Nat → Option (Nat × Nat)} :
    ∀ {ps : List (Nat × Operand)} {qs : List (Nat × Nat × O)} {z cs : List AV} {cells : Array Value},
      PartsOk an place ps qs →
      VRels G W z cells.toList → (∀ u ∈ cells.toList, u.oneCell' = true) → buildV E z qs = some cs →
      ∃ cells' : Array Value, Instr.fill place cells (ps.map fun p => (p.1, a.eval p.2)) = some cells' ∧ VRels G W cs cells'.toList ∧ ∀ u ∈ cells'.toList, u.oneCell' = true
  | [], _ :: _, z, cs, cells, hf, hv, h1, hb => hf.elim
  | _ :: _, [], z, cs, cells, hf, hv, h1, hb => hf.elim
  | [], [], z, cs, cells, hf, hv, h1, hb => by
    simp [buildV] at hb; subst hb
    exact ⟨cells, rfl, hv, h1⟩
  | (j, x) :: ps, (off, n, y) :: qs, z, cs, cells, hf, hv, h1, hb => by
      obtain ⟨hp, hc, hrest⟩ := hf
      simp only [buildV] at hb
      split at hb
      · rename_i v hev
        split at hb
        · rename_i hcond
          obtain ⟨hvl, htu⟩ := hcond
          split at hb
          · rename_i z' hpaste
            have hvr := op_rel hg h hc hev
            obtain ⟨hcr, hc1⟩ := cells_rel hvr htu
            have hcl : (a.eval x).cells.size = n := by have := VRels.length hcr; simpa [hvl] using this
            obtain ⟨p1, p2, p3⟩ := paste_rel hv hcr hpaste
            simp only [Array.length_toList] at p1
            have hfo := fill_one (place := place) (cells := cells) (r := ps.map fun p => (p.1, a.eval p.2)) hp hcl (by omega)
            obtain ⟨cells', k1, k2, k3⟩ := build_rel hg h hrest (cells := (cells.toList.take off ++ (a.eval x).cells.toList ++ cells.toList.drop (off + n)).toArray)
              (by simpa [hcl] using p2) (fun u hu => by
                simp only [List.mem_append] at hu
                rcases hu with (hu | hu) | hu
                · exact h1 u (List.mem_of_mem_take hu)
                · exact hc1 u hu
                · exact h1 u (List.mem_of_mem_drop hu)) hb
            refine ⟨cells', ?_, k2, k3⟩
            simp only [List.map_cons]
            rw [hfo]; exact k1
          · simp at hb
        · simp at hb
      · simp at hb
/-! ### The zero value -/
theorem zero_rel (G : Gh) (W : World) {e : TypeId} {cs : List AV} (hz : cZero P e = some cs) : ∃ i z, P.info? e = some i ∧ i.zero = some z ∧ VRels G W cs z.cells.toList ∧ ∀ u ∈ z.cells.toList, u.oneCell' = true := by
  unfold cZero at hz
  simp only [Option.bind_eq_some_iff] at hz
  obtain ⟨z, ⟨i, hi, hzz⟩, ds, hd, hcond⟩ := hz
  split at hcond
  · rename_i hall
    simp only [Option.some.injEq] at hcond
    subst hcond
    obtain ⟨h1, h2⟩ := cAVs_rel G W _ _ _ hd
    refine ⟨i, z, hi, hzz, h1, h2 ?_⟩
    intro y hy
    have := List.all_eq_true.1 hall y hy
    cases y <;> simp at this ⊢
  · simp at hcond
theorem zeroV_rel (G : Gh) (W : World) {e : TypeId} {v : AV} (hz : cZeroV P e = some v) (hok : cZeroOk P e = true) {sz : Nat} (hsz : cSize P e = some sz) : ∃ i z, P.info? e = some i ∧ i.size = sz ∧ i.zero = some z ∧ VRels G W v.cells z.cells.toList ∧ v.cells.length = sz ∧ z.cells.size = sz ∧ (∀ u ∈ z.cells.toList, u.oneCell' = true) := by
  unfold cZeroV at hz
  simp only [Option.bind_eq_some_iff] at hz
  obtain ⟨g, hg, cs, hcs, n, hn, hv⟩ := hz
  obtain ⟨i, z, hi, hzz, hr, h1⟩ := zero_rel (P := P) G W hcs
  unfold cSize at hsz
  rw [hi] at hsz
  simp only [Option.map_some, Option.some.injEq] at hsz
  unfold cZeroOk at hok
  rw [hi] at hok
  simp only [hzz, beq_iff_eq] at hok
  have hcl := VRels.length hr
  refine ⟨i, z, hi, hsz, hzz, ?_⟩
  rcases val_rel hr h1 hv with ⟨rfl, hag⟩ | ⟨rfl, _, u, hu, hag⟩
  · simp [val] at hv
    subst hv
    exact ⟨by simpa [AV.cells] using hr, by simp [AV.cells]; simp at hcl; omega, by omega, h1⟩
  · have hu1 : u.oneCell' = true := h1 u (by rw [hu]; simp)
    have hvc : v.cells = [v] := by cases hag <;> first | rfl | simp [Value.oneCell'] at hu1
    rw [hvc, hu]
    have : z.cells.toList.length = 1 := by rw [hu]; rfl
    simp at this
    exact ⟨.cons _ _ _ _ hag .nil, by simp; omega, by omega, fun w hw => h1 w (by rw [hu]; exact hw)⟩
end
end Go.Ab
