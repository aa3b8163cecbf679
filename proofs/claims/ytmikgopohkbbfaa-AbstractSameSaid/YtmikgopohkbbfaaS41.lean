/- From the machine of values to the calls of the Go machine. -/
import Derived.Test.YtmikgopohkbbfaaS40
import Derived.Test.YtmikgopohkbbfaaW2
namespace Go.Ab
open Go.RowKit (Below)
/-- The table is the program's. -/
structure Tbl (P : Program) (an : An) (K : Cfg) : Prop where
  fd : ∀ f d, K.fd f = some d → ∃ fn, P.funcs[f]? = some fn ∧ cF P an f fn = some d ∧ fn.name ≠ "runtime.NumGoroutine"
  ext : ∀ f as S v S', K.fd f = none → K.ext f as S = some (v, S') → FnOk P an f as S v S'
theorem Tbl.ok {P : Program} {an : An} {K : Cfg} (h : Tbl P an K) : CfgOk P an K where
  fd := h.fd
  ext := h.ext
  dr f fn hfn rc hrc := dr_ok hrc (by rw [hfn]; rfl)
/-- The ghost of a world at the start: all that lies there is read, and never written. -/
def G_in (W : World) : Gh := { kind := fun c _ => if c < W.heap.size then .fz else .no, mu := fun _ => 0, al := fun _ => (0, 0), asz := fun _ => 0, alen := fun _ => 0, ta := fun _ => (0, 0, 0), pend := fun _ => false, pc := fun _ => (none, none), next := 0, base := W.heap.size }
def S_in : St := { objs := .nil, arrs := .nil, toks := .nil, next := 0 }
theorem srel_in (W : World) : SRel (G_in W) W S_in where
  next := rfl
  objs o cs h := by simp [S_in, Mp.get] at h
  arrs a sz xs h := by simp [S_in, Mp.get] at h
  toks k h := by simp [S_in, Mp.get] at h
  fresh c j h := by
    simp only [G_in] at h
    by_cases hc : c < W.heap.size
    · exact hc
    · rw [if_neg hc] at h; exact absurd rfl h
  base c j h1 h2 := by
    simp only [G_in] at h1 h2
    by_cases hc : c < W.heap.size
    · rw [if_pos hc] at h2; exact absurd rfl h2
    · rw [if_neg hc] at h1; exact absurd rfl h1
  hbase := Nat.le_refl _
  pc o h := by simp [G_in] at h
theorem at_lt {W : World} {c j : Nat} {u : Value} (h : at_ W c j = some u) : c < W.heap.size := by
  unfold at_ World.cell? at h
  by_cases hc : c < W.heap.size
  · exact hc
  · have : W.heap[c]? = none := by simp; omega
    simp [this] at h
theorem froz_in {W : World} {c o : Nat} {us : List Value} (h : ∀ j u, us[j]? = some u → at_ W c (o + j) = some u) : Froz (G_in W) W c o us := by
  intro j u hu
  have := h j u hu
  exact ⟨by simp only [G_in]; rw [if_pos (at_lt this)], this⟩
theorem calls_in {P : Program} {an : An} {K : Cfg} (hT : Tbl P an K) {f : FuncId} {fn : Func} (hfn : P.funcs[f]? = some fn) (hbody : fn.body.isSome = true) (hname : fn.name ≠ "runtime.NumGoroutine") {as : List AV} {R : AV → St → Prop} (h : TF K f as S_in R) {W : World} {us : List Value} (hg : Globs an (G_in W) W) (hv : VRels (G_in W) W as us) :
    Calls P f us.toArray W (fun e w => match e with | .returned u => ∃ v S' G', R v S' ∧ VRel G' w v u ∧ Below W.heap.size W w | _ => False) := by
  obtain ⟨v, S', ⟨N, hN⟩, hR⟩ := h
  have hok := evF_sound hT.ok N f as S_in v S' (hN N (Nat.le_refl _)) (G_in W) W us hg hv (srel_in W)
  obtain ⟨code, hcode⟩ := Option.isSome_iff_exists.1 hbody
  have hent : (callFunc f us.toArray).run P W = .ok (.enter f us.toArray) W := by simp [callFunc, hfn, hname, hcode]
  rcases hok with ⟨_, hc⟩ | ⟨u, W', he, _⟩
  · refine hc.mono ?_
    intro e w he
    cases e with
    | returned u =>
      obtain ⟨G', k1, _, k3⟩ := he
      exact ⟨v, S', G', hR, k1, k3.below⟩
    | panicked _ => exact he.elim
    | outgrown => exact he.elim
  · rw [hent] at he; simp at he
/-! ### What came in -/
section
variable {H : Type} {enc : TypeId × Value → H} {P : Program} {W : World} {held : Bool}
theorem spot_of {a : Addr} {u : Value} (h : W.cell? a = some u) : a = ⟨a.block, a.off, none⟩ := by
  obtain ⟨b, o, s⟩ := a
  unfold World.cell? at h
  split at h
  · split at h
    · simp at h
    · rename_i hs
      cases s with
      | none => rfl
      | some s => simp at hs
  · simp at h
theorem cell_at {a : Addr} {u : Value} {i : Nat} (ha : a = ⟨a.block, a.off, none⟩) (h : W.cell? (a.add i) = some u) : at_ W a.block (a.off + i) = some u := by
  rw [ha, Addr.add_lit] at h
  exact h
end
end Go.Ab
