/- Results; a whole function. -/
import Derived.Test.YtmikgopohkbbfaaS28
namespace Go.Ab
open Go.RowKit (Below)
section
variable {P : Program} {an : An} {fid : FuncId} {G0 : Gh} {W0 : World} {nt : Nat} {rc : Rec} {G : Gh} {W : World} {S : St} {rho : Nat → Nat} {E : Env} {a : Act}
theorem argsT_get : ∀ (vs : List AV) (k : Nat) (m : Mp AV) (n : Nat) (v : AV), (argsT vs k m).get n = some v → (∃ j, n = k + j ∧ vs[j]? = some v) ∨ m.get n = some v
  | [], k, m, n, v, h => .inr h
  | x :: r, k, m, n, v, h => by
    simp only [argsT] at h
    rcases argsT_get r (k + 1) _ n v h with ⟨j, hj, hv⟩ | h
    · exact .inl ⟨j + 1, by omega, by simpa using hv⟩
    · rw [Mp.get_set] at h
      split at h
      · rename_i e; exact .inl ⟨0, by omega, by simpa using h⟩
      · exact .inr h
theorem enter_rel {as : List AV} {us : List Value} {n : Nat} (hs : SRel G W S) (hv : VRels G W as us) (hle : as.length ≤ n) :
    ARel G W G W (fun _ => 0) (env0 as) { tmps := us.toArray ++ Array.replicate (n - us.toArray.size) undef, defers := [] } n where
  e0 := Ext.refl _ _
  f0 c j h := hs.fresh c j h
  size := by have := VRels.length hv; simp; omega
  defers := rfl
  t m v hm := by
    simp only [env0] at hm
    rcases argsT_get as 0 _ m v hm with ⟨j, hj, hv'⟩ | h
    · obtain ⟨u, hu, hr⟩ := VRels.get hv hv'
      refine ⟨u, ?_, hr⟩
      have : j < us.length := (List.getElem?_eq_some_iff.1 hu).1
      rw [hj, Nat.zero_add, Array.getElem?_append_left (by simpa using this)]
      simpa using hu
    · simp [Mp.get] at h
  p m t off hp := by simp [env0, Mp.get] at hp
  r t cs hr := by simp [env0, Mp.get] at hr
  inj t t' cs cs' h1 h2 := by simp [env0, Mp.get] at h1
def resOne (tmps : Array Value) : ResultVar → Sem Value
  | .tmp t => pure (tmps.getD t undef)
  | .cell a t => do loadVar t (← asAddr (tmps.getD a undef))
theorem res_rel (hgl : Globs an G0 W0) (h : ARel G0 W0 G W rho E a nt) (hs : SRel G W S) : ∀ (rs : List ResultVar) (l : List (Nat × Option (Bool × Nat))) (vs : List AV), cRes P rs = some l → resV E S l = some vs →
    ∃ us, (rs.mapM (resOne a.tmps)).run P W = .ok us W ∧ VRels G W vs us
  | [], l, vs, hc, hr => by
    simp only [cRes, Option.some.injEq] at hc
    subst hc
    simp only [resV, Option.some.injEq] at hr
    subst hr
    exact ⟨[], by simp, .nil⟩
  | .tmp t :: rs, l, vs, hc, hr => by
    simp only [cRes, Option.map_eq_some_iff] at hc
    obtain ⟨l', hl', rfl⟩ := hc
    simp only [resV] at hr
    split at hr
    · rename_i v ws h1 h2
      simp only [Option.some.injEq] at hr
      subst hr
      obtain ⟨us, k1, k2⟩ := res_rel hgl h hs rs l' ws hl' h2
      obtain ⟨u, hu, hv⟩ := h.t _ _ h1
      exact ⟨u :: us, by simp [List.mapM_cons, resOne, hu, k1], .cons _ _ _ _ hv k2⟩
    · simp at hr
  | .cell c t :: rs, l, vs, hc, hr => by
    simp only [cRes, Option.bind_eq_some_iff, Option.map_eq_some_iff] at hc
    obtain ⟨g, hg, n, hn, l', hl', rfl⟩ := hc
    simp only [resV] at hr
    split at hr
    · rename_i ad had
      split at hr
      · rename_i cs hcs
        split at hr
        · rename_i v ws h1 h2
          simp only [Option.some.injEq] at hr
          subst hr
          obtain ⟨us, k1, k2⟩ := res_rel hgl h hs rs l' ws hl' h2
          obtain ⟨c', o', us', hu, hvr, hcl, hone, hl⟩ := ldC_rel h hs (ad_rel (x := .tmp c) hgl h rfl had) hcs
          have hu' : a.tmps.getD c undef = .pointer (some ⟨c', o', none⟩) := hu
          have load : ∀ w, (Instr.loadAt t (.pointer (some ⟨c', o', none⟩))).run P W = .ok w W → (resOne a.tmps (.cell c t)).run P W = .ok w W := by
            intro w hw
            simp only [resOne, hu']
            simpa [Instr.loadAt, Instr.sureAddr, asAddr] using hw
          rcases val_rel hvr hone h1 with ⟨rfl, hr'⟩ | ⟨rfl, hn1, u, rfl, hr'⟩
          · have hw := load _ (run_loadAt' hg hn hcl hl (by simp))
            exact ⟨.agg us'.toArray :: us, by simp only [if_true] at hw; simp [List.mapM_cons, hw, k1], .cons _ _ _ _ hr' k2⟩
          · have hw := load _ (run_loadAt' hg hn hcl hl (by simp))
            exact ⟨u :: us, by simp only [Bool.false_eq_true, if_false, List.headD_cons] at hw; simp [List.mapM_cons, hw, k1], .cons _ _ _ _ hr' k2⟩
        · simp at hr
      · simp at hr
    · simp at hr
theorem results_rel (hgl : Globs an G0 W0) (h : ARel G0 W0 G W rho E a nt) (hs : SRel G W S) {fn : Func} {l : List (Nat × Option (Bool × Nat))} {vs : List AV} (hc : cRes P fn.results.toList = some l) (hr : resV E S l = some vs) :
    ∃ u, (results fn a.tmps).run P W = .ok u W ∧ VRel G W (one vs) u := by
  obtain ⟨us, k1, k2⟩ := res_rel hgl h hs fn.results.toList l vs hc hr
  have k3 : (results fn a.tmps).run P W = .ok (if h : us.toArray.size = 1 then us.toArray[0] else .tuple us.toArray) W := by
    have hre : results fn a.tmps = (do let vs ← fn.results.mapM (resOne a.tmps); pure (if h : vs.size = 1 then vs[0] else .tuple vs)) := by
      unfold results
      congr 1
    rw [hre, Array.mapM_eq_mapM_toList]
    simp [k1]
  refine ⟨_, k3, ?_⟩
  cases k2 with
  | nil => simpa [one] using VRel.tu (G := G) (W := W) [] [] .nil
  | cons v u vs us h1 h2 =>
    cases h2 with
    | nil => simpa [one] using h1
    | cons v' u' vs us h3 h4 => simpa [one] using VRel.tu (G := G) (W := W) (v :: v' :: vs) (u :: u' :: us) (.cons _ _ _ _ h1 (.cons _ _ _ _ h3 h4))
/-- The table of functions is the program's. -/
structure CfgOk (P : Program) (an : An) (K : Cfg) : Prop where
  fd : ∀ f d, K.fd f = some d → ∃ fn, P.funcs[f]? = some fn ∧ cF P an f fn = some d ∧ fn.name ≠ "runtime.NumGoroutine"
  ext : ∀ f as S v S', K.fd f = none → K.ext f as S = some (v, S') → FnOk P an f as S v S'
  dr : ∀ f fn, P.funcs[f]? = some fn → ∀ rc, RecOk P an rc → DrOk P an f rc fn.ntmps
theorem evF_sound {K : Cfg} (hK : CfgOk P an K) : ∀ n, RecOk P an (evF K n)
  | 0 => by intro f as S v S' h; simp [evF] at h
  | n + 1 => by
    intro f as S v S' h
    have ih := evF_sound hK n
    simp only [evF] at h
    split at h
    · rename_i hfd; exact hK.ext f as S v S' hfd h
    · rename_i d hfd
      obtain ⟨fn, hfn, hcf, hname⟩ := hK.fd f d hfd
      simp only [cF, Option.bind_eq_some_iff, Option.map_eq_some_iff] at hcf
      obtain ⟨rs, hrs, code, hcode, ⟨c', lv⟩, hcc, rfl⟩ := hcf
      split at h
      case isFalse => simp at h
      rename_i hle
      simp only at h hle
      intro G W us hg hv hs
      left
      refine ⟨?_, ?_⟩
      · simp [callFunc, hfn, hname, hcode]
      · have ha := enter_rel (n := fn.ntmps) hs hv hle
        have hnt : ((P.funcs[f]?).map (·.ntmps)).getD 0 = fn.ntmps := by rw [hfn]; rfl
        have fin : ∀ {x : Ex} {E1 : Env} {S1 : St} {vs : List AV}, (x = .nor ∨ x = .ret) → evC (evF K n) n c' (env0 as) S = some (x, E1, S1) → resV E1 S1 rs = some vs → (if an.raw f then some (one vs, S1) else frz 1000 S1 (one vs)) = some (v, S') →
            Calls P f us.toArray W (fun e w => match e with | .returned u => ∃ G', VRel G' w v u ∧ SRel G' w S' ∧ Ext G W G' w | _ => False) := by
          intro x E1 S1 vs hx he hres hend
          refine calls_of_wp hfn hcode (evC_sound ih (hK.dr f fn hfn _ ih) hg hnt n c' _ _ _ _ _ _ hcc ha hs he ?_)
          intro a' W' G' rho' h' hs'
          obtain ⟨u, hu, hvu⟩ := results_rel (hg) h' hs' hrs hres
          have key : a'.defers = [] ∧ ∃ w, (results fn a'.tmps).run P W' = .ok w W' ∧ ∃ G', VRel G' W' v w ∧ SRel G' W' S' ∧ Ext G W G' W' := by
            refine ⟨h'.defers, u, hu, ?_⟩
            split at hend
            · simp only [Option.some.injEq, Prod.mk.injEq] at hend
              obtain ⟨rfl, rfl⟩ := hend
              exact ⟨G', hvu, hs', h'.e0⟩
            · obtain ⟨G2, e1, e2, e3⟩ := (frz_all 1000).1 hvu hs' hend
              exact ⟨G2, e3, e2, h'.e0.trans e1⟩
          rcases hx with rfl | rfl <;> exact key
        split at h
        · simp at h
        · simp at h
        · rename_i x E1 S1 hx1 hx2 he
          split at h
          · rename_i vs hres
            refine fin ?_ he hres h
            cases x with
            | nor => exact .inl rfl
            | ret => exact .inr rfl
            | exit id => exact (hx1 _ rfl).elim
            | goto l => exact (hx2 _ rfl).elim
          · simp at h
        · simp at h
end
end Go.Ab
