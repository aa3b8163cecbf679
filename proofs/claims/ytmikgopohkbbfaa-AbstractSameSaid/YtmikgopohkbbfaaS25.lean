/- What an operation yields is put into the frame; what lives behind a region. -/
import Derived.Test.YtmikgopohkbbfaaS24
namespace Go.Ab
open Go.RowKit (Below)
section
variable {P : Program} {an : An} {fid : FuncId} {G0 : Gh} {W0 : World} {G G' : Gh} {W : World} {S S' : St} {rho : Nat → Nat} {E E' : Env} {a : Act} {nt : Nat} {r : Rs}
theorem put_size (d : Option Tmp) (u : Value) : (a.put d u).tmps.size = a.tmps.size := by
  cases d <;> simp [Act.put]
theorem put_defers (d : Option Tmp) (u : Value) : (a.put d u).defers = a.defers := by cases d <;> rfl
theorem put_same {d : Nat} (u : Value) (hd : d < a.tmps.size) : (a.put (some d) u).tmps[d]? = some u := by
  simp [Act.put, hd]
theorem put_other {d n : Nat} (u : Value) (hn : n ≠ d) : (a.put (some d) u).tmps[n]? = a.tmps[n]? := by
  simp [Act.put, Array.getElem?_setIfInBounds, Ne.symm hn]
theorem unp_get (d n : Nat) : (E.unp d).get n = if n = d then none else E.p.get n := by
  unfold Env.unp
  split
  · rename_i hq
    by_cases e : n = d
    · subst e; rw [if_pos rfl]; exact hq
    · rw [if_neg e]
  · rw [Mp.get_set]
/-- A temporary is given up. -/
theorem clr_rel (h : ARel G0 W0 G W rho E a nt) (d : Nat) (u : Value) : ARel G0 W0 G W rho (E.clr d) (a.put (some d) u) nt where
  e0 := h.e0
  f0 := h.f0
  size := (put_size _ _).trans h.size
  defers := (put_defers _ _).trans h.defers
  t n v hv := by
    simp only [Env.clr, Mp.get_set] at hv
    split at hv
    · simp at hv
    · rename_i hn
      rw [put_other u hn]; exact h.t n v hv
  p n t off hp := by
    simp only [Env.clr, unp_get] at hp
    split at hp
    · simp at hp
    · rename_i hn
      rw [put_other u hn]; exact h.p n t off hp
  r := h.r
  inj := h.inj
theorem setV_rel (h : ARel G0 W0 G W rho E a nt) {d : Nat} (hd : d < nt) {v : AV} {u : Value} (hv : VRel G W v u) : ARel G0 W0 G W rho (E.setV d v) (a.put (some d) u) nt where
  e0 := h.e0
  f0 := h.f0
  size := (put_size _ _).trans h.size
  defers := (put_defers _ _).trans h.defers
  t n w hw := by
    simp only [Env.setV, Mp.get_set] at hw
    split at hw
    · rename_i hn
      subst hn
      simp only [Option.some.injEq] at hw
      subst hw
      exact ⟨u, put_same u (by rw [h.size]; exact hd), hv⟩
    · rename_i hn
      rw [put_other u hn]; exact h.t n w hw
  p n t off hp := by
    simp only [Env.setV, unp_get] at hp
    split at hp
    · simp at hp
    · rename_i hn
      rw [put_other u hn]; exact h.p n t off hp
  r := h.r
  inj := h.inj
theorem setA_rel (h : ARel G0 W0 G W rho E a nt) {d t off : Nat} (hd : d < nt) (ht : (E.r.get t).isSome = true) : ARel G0 W0 G W rho (E.setA d t off) (a.put (some d) (.pointer (some ⟨rho t, off, none⟩))) nt where
  e0 := h.e0
  f0 := h.f0
  size := (put_size _ _).trans h.size
  defers := (put_defers _ _).trans h.defers
  t n w hw := by
    simp only [Env.setA, Mp.get_set] at hw
    split at hw
    · simp at hw
    · rename_i hn
      rw [put_other _ hn]; exact h.t n w hw
  p n t' off' hp := by
    simp only [Env.setA, Mp.get_set] at hp
    split at hp
    · rename_i hn
      subst hn
      simp only [Option.some.injEq, Prod.mk.injEq] at hp
      obtain ⟨rfl, rfl⟩ := hp
      refine ⟨put_same _ (by rw [h.size]; exact hd), ?_, ht⟩
      by_cases htn : t = n
      · exact .inl htn.symm
      · right; simp [Env.setA, if_neg htn]
    · rename_i hn
      obtain ⟨k1, k2, k3⟩ := h.p n t' off' hp
      refine ⟨by rw [put_other _ hn]; exact k1, ?_, k3⟩
      rcases k2 with k2 | k2
      · exact .inl k2
      · right
        simp only [Env.setA]
        split
        · exact k2
        · exact List.mem_cons_of_mem _ k2
  r := h.r
  inj := h.inj
theorem castK_some {β : Type} {kd : Kd} {v : AV} {k : AV → Option β} {y : β} (h : castK none kd v k = some y) : k v = some y := by
  cases kd with
  | i kk =>
    simp only [castK] at h
    obtain ⟨n, hn, h⟩ := oE_some h
    cases v <;> simp [asI] at hn
    obtain ⟨rfl, rfl⟩ := hn
    exact h
  | b =>
    simp only [castK] at h
    obtain ⟨n, hn, h⟩ := oE_some h
    cases v <;> simp [asB] at hn
    subst hn; exact h
  | s =>
    simp only [castK] at h
    obtain ⟨n, hn, h⟩ := oE_some h
    cases v <;> simp [asS] at hn
    subst hn; exact h
  | any => exact h
theorem put_rel {β : Type} (h : ARel G0 W0 G W rho E a nt) {d : Option Nat} (hd : ∀ x, d = some x → x < nt) {kd : Kd} {u : Value} (hr : RsRel G W rho E r u) {k : Env → Option β} {y : β} (hk : putK none E d kd r k = some y) :
    ∃ E', k E' = some y ∧ ARel G0 W0 G W rho E' (a.put d u) nt := by
  cases d with
  | none => exact ⟨E, hk, h⟩
  | some d =>
    simp only [putK] at hk
    cases r with
    | val v => exact ⟨_, castK_some hk, setV_rel h (hd d rfl) hr⟩
    | adr t off =>
      obtain ⟨rfl, ht⟩ := hr
      exact ⟨_, hk, setA_rel h (hd d rfl) ht⟩
    | no => exact ⟨_, hk, clr_rel h d u⟩
/-! ### What is kept -/
theorem keepT_get : ∀ (l : List Nat) (m : Mp AV) (n : Nat) (v : AV), (keepT E l m).get n = some v → E.t.get n = some v ∨ m.get n = some v
  | [], m, n, v, h => .inr h
  | x :: l, m, n, v, h => by
    simp only [keepT] at h
    split at h
    · rename_i w hw
      rcases keepT_get l _ n v h with q | q
      · exact .inl q
      · rw [Mp.get_set] at q
        split at q
        · rename_i e; rw [e]; left; rw [hw]; exact q
        · exact .inr q
    · exact keepT_get l _ n v h
theorem keepP_get : ∀ (l : List Nat) (m : Mp (Nat × Nat)) (n t off : Nat), (keepP E l m).get n = some (t, off) → (E.p.get n = some (t, off) ∧ n = t ∧ n ∈ l) ∨ m.get n = some (t, off)
  | [], m, n, t, off, h => .inr h
  | x :: l, m, n, t, off, h => by
    simp only [keepP] at h
    split at h
    · rename_i t' off' hw
      split at h
      · rename_i hc
        rcases keepP_get l _ n t off h with q | q
        · exact .inl ⟨q.1, q.2.1, List.mem_cons_of_mem _ q.2.2⟩
        · rw [Mp.get_set] at q
          split at q
          · rename_i e
            rw [e]
            simp only [Option.some.injEq, Prod.mk.injEq] at q
            obtain ⟨rfl, rfl⟩ := q
            exact .inl ⟨hw, hc.1.symm, by simp⟩
          · exact .inr q
      · rcases keepP_get l _ n t off h with h | h
        · exact .inl ⟨h.1, h.2.1, List.mem_cons_of_mem _ h.2.2⟩
        · exact .inr h
    · rcases keepP_get l _ n t off h with h | h
      · exact .inl ⟨h.1, h.2.1, List.mem_cons_of_mem _ h.2.2⟩
      · exact .inr h
theorem keepR_get : ∀ (l : List Nat) (m : Mp (List AV)) (n : Nat) (v : List AV), (keepR E l m).get n = some v → E.r.get n = some v ∨ m.get n = some v
  | [], m, n, v, h => .inr h
  | x :: l, m, n, v, h => by
    simp only [keepR] at h
    split at h
    · rename_i w hw
      rcases keepR_get l _ n v h with q | q
      · exact .inl q
      · rw [Mp.get_set] at q
        split at q
        · rename_i e; rw [e]; left; rw [hw]; exact q
        · exact .inr q
    · exact keepR_get l _ n v h
theorem keepR_keeps : ∀ (l : List Nat) (m : Mp (List AV)) (n : Nat), (m.get n).isSome = true → ((keepR E l m).get n).isSome = true
  | [], m, n, h => h
  | x :: l, m, n, h => by
    simp only [keepR]
    split
    · refine keepR_keeps l _ n ?_
      rw [Mp.get_set]
      split
      · rfl
      · exact h
    · exact keepR_keeps l _ n h
theorem keepR_has : ∀ (l : List Nat) (m : Mp (List AV)) (n : Nat), n ∈ l → (E.r.get n).isSome = true → ((keepR E l m).get n).isSome = true
  | [], m, n, h, _ => by simp at h
  | x :: l, m, n, h, hr => by
    simp only [keepR]
    rcases List.mem_cons.1 h with rfl | h
    · split
      · exact keepR_keeps l _ n (by rw [Mp.get_set_self]; rfl)
      · rename_i hn; rw [hn] at hr; simp at hr
    · split
      · exact keepR_has l _ n h hr
      · exact keepR_has l _ n h hr
theorem keep_rel (h : ARel G0 W0 G W rho E a nt) (live : List Nat) : ARel G0 W0 G W rho (E.keep live) a nt where
  e0 := h.e0
  f0 := h.f0
  size := h.size
  defers := h.defers
  t n v hv := by
    rcases keepT_get live _ n v hv with hv | hv
    · exact h.t n v hv
    · simp [Mp.get] at hv
  p n t off hp := by
    rcases keepP_get live _ n t off hp with ⟨hp, hn, hl⟩ | hp
    · obtain ⟨k1, k2, k3⟩ := h.p n t off hp
      exact ⟨k1, .inl hn, keepR_has live _ t (hn ▸ hl) k3⟩
    · simp [Mp.get] at hp
  r t cs hr := by
    rcases keepR_get live _ t cs hr with hr | hr
    · exact h.r t cs hr
    · simp [Mp.get] at hr
  inj t t' cs cs' h1 h2 := by
    rcases keepR_get live _ t cs h1 with h1 | h1
    · rcases keepR_get live _ t' cs' h2 with h2 | h2
      · exact h.inj t t' cs cs' h1 h2
      · simp [Mp.get] at h2
    · simp [Mp.get] at h1
end
end Go.Ab
