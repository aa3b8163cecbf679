/- Every operation: what only tells. -/
import Derived.Test.YtmikgopohkbbfaaS13
import Derived.Laws.BytesString
namespace Go.Ab
open Go.RowKit (Below)
section
variable {P : Program} {an : An} {fid : FuncId} {G0 : Gh} {W0 : World} {G G' : Gh} {W : World} {S S' : St} {rho : Nat → Nat} {E E' : Env} {a : Act} {nt : Nat} {r : Rs}
theorem fa_done (h : ARel G0 W0 G W rho E a nt) (hs : SRel G W S) {s : Sem Next} {off : Nat} {ad : Ad} {u : Value} (hr : AdRel G W rho E ad u) (hf : faV off ad = some r)
    (hrun : ∀ c o, u = .pointer (some ⟨c, o, none⟩) → s.run P W = .ok (.value (.pointer (some ⟨c, o + off, none⟩))) W) : Done P G0 W0 nt a s W r E S := by
  cases ad with
  | rg t k =>
    obtain ⟨rfl, ht⟩ := hr
    simp only [faV, Option.some.injEq] at hf
    subst hf
    exact done_adr h hs (hrun _ _ rfl) ht
  | v x =>
    change VRel G W x u at hr
    cases hr with
    | rf o k ho hp =>
      simp only [faV, Option.some.injEq] at hf; subst hf
      exact done_val h hs (hrun _ _ rfl) (.rf o (k + off) ho hp)
    | fz cs c o us hz h1 hv =>
      simp only [faV, Option.some.injEq] at hf; subst hf
      refine done_val h hs (hrun _ _ rfl) (.fz (cs.drop off) c (o + off) (us.drop off) (fun j u hu => ?_) (fun u hu => h1 u (List.mem_of_mem_drop hu)) (VRels.drop off hv))
      rw [List.getElem?_drop] at hu
      have := hz _ _ hu
      rwa [← Nat.add_assoc] at this
    | ap b i k hb hp =>
      simp only [faV, Option.some.injEq] at hf; subst hf
      have := VRel.ap (G := G) (W := W) b i (k + off) hb hp
      refine done_val h hs (hrun _ _ rfl) ?_
      rw [Nat.add_assoc]; exact this
    | _ => simp [faV] at hf
theorem nchk_done (h : ARel G0 W0 G W rho E a nt) (hs : SRel G W S) {s : Sem Next} {ad : Ad} {u : Value} (hr : AdRel G W rho E ad u) (hf : nchkV ad = some r)
    (hrun : (∃ x, u = .pointer (some x)) ∨ (∃ f p q, u = .func (.func f) p q) → s.run P W = .ok (.value u) W) : Done P G0 W0 nt a s W r E S := by
  cases ad with
  | rg t k =>
    obtain ⟨rfl, ht⟩ := hr
    simp only [nchkV, Option.some.injEq] at hf
    subst hf
    exact done_adr h hs (hrun (.inl ⟨_, rfl⟩)) ht
  | v x =>
    change VRel G W x u at hr
    cases x <;> simp [nchkV] at hf <;> subst hf <;> refine done_val h hs (hrun ?_) hr <;> cases hr <;> first | exact .inl ⟨_, rfl⟩ | exact .inr ⟨_, _, _, rfl⟩
theorem ia_rel (hs : SRel G W S) {t e : TypeId} {sz : Nat} (h0 : P.underlying t = some (.slice e)) (hn : cSize P e = some sz) {x y : AV} {n : Int} {k : IntKind} {u : Value} (hx : VRel G W x u) (hi : iaV S sz x n = some y) (hsz : 0 < sz) :
    ∃ w, (Instr.indexAt t u (.int k n)).run P W = .ok w W ∧ VRel G W y w := by
  unfold iaV at hi
  split at hi
  · simp at hi
  · rename_i hneg
    cases hx with
    | nl s => simp at hi
    | se s ad => simp at hi
    | sl s xs t' c o cap us h1 hel hf hu1 hv hcap hnl hex hid =>
      simp only at hi
      split at hi
      · rename_i hse
        subst hse
        split at hi
        · rename_i v hv'
          simp only [Option.some.injEq] at hi
          subst hi
          have hlt : n.toNat < xs.length := (List.getElem?_eq_some_iff.1 hv').1
          refine ⟨.pointer (some ⟨c, o + n.toNat * s, none⟩), ?_, ?_⟩
          · simp [Instr.indexAt, asIntOf, run_underlying h0, run_sizeOf hn, show 0 ≤ n by omega, show n < xs.length by omega, Addr.add_lit]
          · refine .fz v.cells c (o + n.toNat * s) ((us.drop (n.toNat * s)).take s) ?_ (mem_sub hu1 _ _) ?_
            · intro j u hu
              rw [List.getElem?_take] at hu
              split at hu
              · rw [List.getElem?_drop] at hu
                have := hf _ _ hu
                rwa [← Nat.add_assoc] at this
              · simp at hu
            · rw [← flat_at hel hv']; exact VRels.take _ (VRels.drop _ hv)
        · simp at hi
      · simp at hi
    | ar b off len cap cap' t' ad hb hp h1 had hlen hcap hin hnl hex hid =>
      simp only at hi
      split at hi
      · rename_i s all harr
        split at hi
        · rename_i hcond
          obtain ⟨hse, hlt⟩ := hcond
          simp only [Option.some.injEq] at hi
          subst hi; subst hse
          obtain ⟨_, _, _, krest⟩ := hs.arrs b s all harr
          obtain ⟨e1, _⟩ := krest hp
          have had' := had.2 (by omega)
          subst had'
          refine ⟨.pointer (some ⟨(G.al b).1, (G.al b).2 + off * G.asz b + n.toNat * s, none⟩), ?_, ?_⟩
          · simp [Instr.indexAt, asIntOf, run_underlying h0, run_sizeOf hn, show 0 ≤ n by omega, show n < len by omega, Addr.add_lit]
          · have := VRel.ap (G := G) (W := W) b (off + n.toNat) 0 hb hp
            rw [Nat.add_mul, Nat.add_zero, ← Nat.add_assoc, e1] at this
            rw [e1]
            exact this
        · simp at hi
      · simp at hi
    | _ => simp at hi
/-! ### Slicing -/
theorem bnd_rel (hg : Globs an G0 W0) (h : ARel G0 W0 G W rho E a nt) {x : Option Operand} {y : Option O} {b : Option Nat} (hc : cOptO an x = some y) (hb : bnd E y = some b) : (x = none ∧ b = none) ∨ ∃ z n k, x = some z ∧ b = some n ∧ a.eval z = .int k (n : Int) := by
  cases x with
  | none => simp [cOptO] at hc; subst hc; simp [bnd] at hb; subst hb; exact .inl ⟨rfl, rfl⟩
  | some z =>
    simp only [cOptO, Option.map_eq_some_iff] at hc
    obtain ⟨w, hw, rfl⟩ := hc
    simp only [bnd] at hb
    split at hb
    · rename_i v hv
      simp only [Option.map_eq_some_iff] at hb
      obtain ⟨n, hn, rfl⟩ := hb
      have hr := op_rel hg h hw hv
      generalize hu : a.eval z = u at hr
      cases v <;> simp [natOf] at hn
      rename_i k m
      obtain ⟨hm, rfl⟩ := hn
      cases hr
      exact .inr ⟨z, _, k, rfl, rfl, by rw [hu]; congr 1; omega⟩
    · simp at hb
end
end Go.Ab
