/- What makes a new place on the heap, ahead or when it is told. -/
import Derived.Test.YtmikgopohkbbfaaS33
namespace Go.Ab
open Go.RowKit (Below)
/-- No operation that makes a new place. -/
def NoA (x : Option Op) : Prop := ∀ op, x = some op → isA op = false
theorem noA_none : NoA none := fun _ h => by simp at h
theorem noA_some {op : Op} (h : isA op = false) : NoA (some op) := fun _ e => by cases e; exact h
theorem noA_bind {α : Type} {x : Option α} {f : α → Option Op} (h : ∀ v, NoA (f v)) : NoA (x.bind f) := fun op e => by
  obtain ⟨v, _, e⟩ := Option.bind_eq_some_iff.1 e
  exact h v op e
theorem noA_map {α : Type} {x : Option α} {f : α → Op} (h : ∀ v, isA (f v) = false) : NoA (x.map f) := fun op e => by
  obtain ⟨v, _, rfl⟩ := Option.map_eq_some_iff.1 e
  exact h v
section
variable {P : Program} {an : An} {fid : FuncId}
theorem cOp_A_inv {p : Oper} {op : Op} (hop : cOp P an fid p = some op) (ha : isA op = true) : (∃ e, p.op = .alloc e) ∨ (∃ e x, p.op = .box e x) ∨ (∃ t l c, p.op = .makeSlice t l c) := by
  have key : ((∀ e, p.op ≠ .alloc e) ∧ (∀ e x, p.op ≠ .box e x) ∧ (∀ t l c, p.op ≠ .makeSlice t l c)) → NoA (cOp P an fid p) := by
    rintro ⟨h1, h2, h3⟩
    unfold cOp
    split
    all_goals first
      | (rename_i e ho; exact absurd ho (h1 e))
      | (rename_i e x ho; exact absurd ho (h2 e x))
      | (rename_i t l c ho; exact absurd ho (h3 t l c))
      | (repeat' first | exact noA_none | exact noA_some rfl | (refine noA_map (fun _ => ?_)) | (refine noA_bind (fun _ => ?_)) | rfl | split)
  cases ho : p.op
  case alloc e => exact .inl ⟨e, rfl⟩
  case box e x => exact .inr (.inl ⟨e, x, rfl⟩)
  case makeSlice t l c => exact .inr (.inr ⟨t, l, c, rfl⟩)
  all_goals
    exfalso
    have := key ⟨by intros; rw [ho]; simp, by intros; rw [ho]; simp, by intros; rw [ho]; simp⟩ op hop
    rw [this] at ha
    simp at ha
end
/-- What a new place on the heap is, and holds. -/
def heapV (E : Env) (o : Nat) : Op → Option (AV × Option (List AV) × Option (Nat × List AV))
  | .new .heap z => some (.rf o 0, some z, none)
  | .box .heap n x => (E.op x).bind fun v => match decide (v.cells.length = n) && !v.isTu with
    | true => some (.rf o 0, some v.cells, none)
    | false => none
  | .mk true sz bytes z l c => ((E.op l).bind intOf).bind fun l => ((E.op c).bind intOf).bind fun c => match decide (0 ≤ l ∧ l ≤ c) && room c.toNat bytes with
    | true => some (.ar o 0 l.toNat c.toNat .ex, none, some (sz, List.replicate c.toNat z))
    | false => none
  | _ => none
def heapS (S : St) (c : Option (List AV) × Option (Nat × List AV)) : St :=
  { objs := match c.1 with | some cs => S.objs.set S.next (some cs) | none => S.objs, arrs := match c.2 with | some q => S.arrs.set S.next (some q) | none => S.arrs, toks := S.toks, next := S.next + 1 }
theorem stepO_heap {E : Env} {S : St} {d : Nat} {op : Op} (ha : isA op = true) (hr : isRg op = false) : stepO E S d op = (heapV E S.next op).bind fun q => some (.val q.1, E, heapS S q.2) := by
  cases op <;> simp only [isA, Bool.false_eq_true] at ha
  case new m z => cases m <;> simp [isRg] at ha hr <;> rfl
  case box m n x =>
    cases m <;> simp [isRg] at ha hr
    simp only [stepO, stepOp, heapV]
    cases E.op x with
    | none => rfl
    | some v =>
      simp only [oE, Option.bind_some]
      split <;> rename_i hq <;> rw [hq] <;> rfl
  case mk arr sz by_ z l c =>
    subst ha
    simp only [stepO, stepOp, heapV]
    cases (E.op l).bind intOf with
    | none => rfl
    | some l =>
      cases (E.op c).bind intOf with
      | none => rfl
      | some c =>
        simp only [oE, Option.bind_some]
        split <;> rename_i hq <;> rw [hq] <;> rfl
theorem heapV_ag {E1 E2 : Env} {o : Nat} {op : Op} (h : Agree E1 E2 (usesO (opO op))) : heapV E2 o op = heapV E1 o op := by
  cases op with
  | box m n x =>
    have := ag_op h (x := x) (by simp [opO])
    cases m <;> simp only [heapV, this]
  | mk arr sz by_ z l c =>
    have h1 := ag_op h (x := l) (by simp [opO])
    have h2 := ag_op h (x := c) (by simp [opO])
    cases arr <;> simp only [heapV, h1, h2]
  | new m z => cases m <;> rfl
  | _ => rfl
theorem heapV_id {E : Env} {o : Nat} {op : Op} {v : AV} {c : Option (List AV) × Option (Nat × List AV)} (h : heapV E o op = some (v, c)) (o' : Nat) : ∃ v', heapV E o' op = some (v', c) := by
  cases op <;> try (simp [heapV] at h; done)
  case new m z => cases m <;> simp [heapV] at h ⊢; exact h.2
  case box m n x =>
    cases m <;> simp only [heapV, reduceCtorEq] at h
    obtain ⟨v0, hv, h⟩ := Option.bind_eq_some_iff.1 h
    split at h
    · rename_i hq
      simp only [Option.some.injEq, Prod.mk.injEq] at h
      exact ⟨_, by simp only [heapV, hv, Option.bind_some, hq]; rw [h.2]⟩
    · simp at h
  case mk arr sz by_ z l c' =>
    cases arr <;> simp only [heapV, reduceCtorEq] at h
    obtain ⟨l0, hl, h⟩ := Option.bind_eq_some_iff.1 h
    obtain ⟨c0, hc, h⟩ := Option.bind_eq_some_iff.1 h
    split at h
    · rename_i hq
      simp only [Option.some.injEq, Prod.mk.injEq] at h
      exact ⟨_, by simp only [heapV, hl, hc, Option.bind_some, hq]; rw [h.2]⟩
    · simp at h
section
variable {P : Program} {an : An} {fid : FuncId} {G0 : Gh} {W0 : World} {G : Gh} {W : World} {S : St} {rho : Nat → Nat} {E : Env} {a : Act} {nt : Nat}
theorem made_ref {o c : Nat} {w : Own} {sz len : Nat} (ho : o < G.next) : VRel ((G.newK c (fun _ => .pr)).give c o w sz len) W (.rf o 0) (.pointer (some ⟨c, 0, none⟩)) := by
  have := VRel.rf (G := (G.newK c (fun _ => .pr)).give c o w sz len) (W := W) o 0 ho (by simp [Gh.give])
  have hm : ((G.newK c (fun _ => .pr)).give c o w sz len).mu o = c := by simp [Gh.give]
  rwa [hm] at this
theorem made_told (h : ARel G0 W0 G W rho E a nt) (hs : SRel G W S) {o : Nat} {cs : List AV} {us : List Value} (hp : G.pend o = true) (hpc : G.pc o = (some cs, none)) (h0 : G0.next ≤ o) (hv : VRels G W cs us) (h1 : ∀ u ∈ us, u.oneCell' = true) (e : TypeId) {s : Sem Next}
    (hrun : s.run P W = .ok (.value (.pointer (some ⟨W.heap.size, 0, none⟩))) (W.alloc (.cells us.toArray e))) :
    ∃ u W' G', s.run P W = .ok (.value u) W' ∧ VRel G' W' (.rf o 0) u ∧ ARel G0 W0 G' W' rho E a nt ∧ SRel G' W' S ∧ (∀ b, b ≠ o → G'.pend b = G.pend b) ∧ G'.pc = G.pc := by
  obtain ⟨k1, k2, k3⟩ := give_rel h hs (w := .obj o) (sz := 0) (len := 0) hp h0 (.inl ⟨rfl, cs, hpc, hv⟩) h1 e
  exact ⟨_, _, _, hrun, made_ref (by rw [hs.next]; exact (hs.pc o hp).1), k1, k2, fun b hb => by simp [Gh.give, Gh.newK, hb], rfl⟩
/-- It is made. -/
theorem heap_made (hg : Globs an G0 W0) (h : ARel G0 W0 G W rho E a nt) (hs : SRel G W S) {op : Op} {p : Oper} (hc : cOp P an fid p = some op) {o : Nat} {v : AV} {c : Option (List AV) × Option (Nat × List AV)} (hv : heapV E o op = some (v, c))
    (hp : G.pend o = true) (hpc : G.pc o = c) (h0 : G0.next ≤ o) :
    ∃ u W' G', (execOp a.eval p).run P W = .ok (.value u) W' ∧ VRel G' W' v u ∧ ARel G0 W0 G' W' rho E a nt ∧ SRel G' W' S ∧ (∀ b, b ≠ o → G'.pend b = G.pend b) ∧ G'.pc = G.pc := by
  have hA : isA op = true := by
    cases op <;> try (simp [heapV] at hv; done)
    case new m z => cases m <;> simp [heapV] at hv <;> rfl
    case box m n x => cases m <;> simp [heapV] at hv <;> rfl
    case mk arr _ _ _ _ _ => cases arr <;> simp [heapV] at hv <;> rfl
  rcases cOp_A_inv hc hA with ⟨e, ho⟩ | ⟨e, x, ho⟩ | ⟨t, l, cc, ho⟩
  · simp only [cOp, ho, Option.bind_eq_some_iff, Option.map_eq_some_iff] at hc
    obtain ⟨z, hz, d, hd, rfl⟩ := hc
    cases hb : an.bk fid d <;> rw [hb] at hv <;> simp only [heapV, reduceCtorEq, Option.some.injEq, Prod.mk.injEq] at hv
    obtain ⟨rfl, rfl⟩ := hv
    obtain ⟨i, zv, hi, hzi, hzr, hz1⟩ := zero_rel (P := P) G W hz
    refine made_told h hs hp hpc h0 hzr hz1 e ?_
    have : zv.cells.toList.toArray = zv.cells := by simp
    simp [execOp, ho, Instr.alloc, zeroValue, typeInfo, hi, hzi, newVar, newRow, this]
  · simp only [cOp, ho, Option.bind_eq_some_iff, Option.map_eq_some_iff] at hc
    obtain ⟨n, hn, y, hy, d, hd, rfl⟩ := hc
    cases hb : an.bk fid d <;> rw [hb] at hv <;> simp only [heapV, reduceCtorEq] at hv
    obtain ⟨v0, hv0, hv⟩ := Option.bind_eq_some_iff.1 hv
    split at hv
    · rename_i hcond
      simp only [Bool.and_eq_true, decide_eq_true_eq, Bool.not_eq_true'] at hcond
      simp only [Option.some.injEq, Prod.mk.injEq] at hv
      obtain ⟨rfl, rfl⟩ := hv
      obtain ⟨hr, h1⟩ := cells_rel (op_rel hg h hy hv0) hcond.2
      refine made_told h hs hp hpc h0 hr h1 e ?_
      simp [execOp, ho, Instr.box, newVar, newRow]
    · simp at hv
  · simp only [cOp, ho] at hc
    split at hc
    · rename_i e hu
      simp only [Option.bind_eq_some_iff] at hc
      obtain ⟨sz, hsz, by_, hby, z, hz, d, hd, hc⟩ := hc
      split at hc
      · simp at hc
      · rename_i hcond
        simp only [not_or] at hcond
        obtain ⟨c1, c2, c3⟩ := hcond
        simp only [Option.bind_eq_some_iff, Option.map_eq_some_iff] at hc
        obtain ⟨y, hy, w, hw, rfl⟩ := hc
        cases harr : (an.arr fid).contains d <;> rw [harr] at hv <;> simp only [heapV, reduceCtorEq] at hv
        obtain ⟨l0, hl0, hv⟩ := Option.bind_eq_some_iff.1 hv
        obtain ⟨c0, hc0, hv⟩ := Option.bind_eq_some_iff.1 hv
        split at hv
        · rename_i hcond
          simp only [Bool.and_eq_true, decide_eq_true_eq] at hcond
          obtain ⟨hlc, hroom⟩ := hcond
          simp only [Option.some.injEq, Prod.mk.injEq] at hv
          obtain ⟨rfl, rfl⟩ := hv
          obtain ⟨k1, hk1⟩ := bind_int hg h hy hl0
          obtain ⟨k2, hk2⟩ := bind_int hg h hw hc0
          obtain ⟨i, zv, hi, hsi, hzi, hzr, hzl, hzs, hz1⟩ := zeroV_rel (P := P) G W hz (by simpa using c3) hsz
          have hbi : i.bytes = by_ := by
            unfold cBytes at hby; rw [hi] at hby; simpa using hby
          have hc1 : ((c0.toNat : Nat) : Int) = c0 := by omega
          have hr0 : c0.toNat * by_ ≤ 2 ^ 46 := by simpa [room] using hroom
          have hmax : c0 ≤ 2 ^ 46 := by
            have : c0.toNat ≤ 2 ^ 46 := Nat.le_trans (Nat.le_mul_of_pos_right _ (by omega)) hr0
            omega
          have hb2 : (i.bytes : Int) * c0 ≤ 281474976710656 := by
            rw [hbi, ← hc1, ← Int.natCast_mul, Nat.mul_comm]; omega
          have hr := run_make (P := P) W t e i zv hu hi hzi k1 k2 l0 c0 hlc.1 hlc.2 hb2 (by omega)
          have hcells : madeCells zv.cells (c0.toNat * i.size) = ((List.range (c0.toNat * sz)).map fun i => zv.cells[i % zv.cells.size]!).toArray := by
            apply Array.ext'
            simp [madeCells, hsi]
          rw [hcells] at hr
          have hsz0 : 0 < sz := by omega
          have hvv := made_rel (G := G) (W := W) hsz0 hzs hzr c0.toNat
          have h1 := made_one hsz0 hzs hz1 (c0.toNat * sz)
          obtain ⟨q1, q2, q3⟩ := give_rel h hs (w := .arr o) (sz := sz) (len := c0.toNat) hp h0 (.inr ⟨rfl, hsz0, _, hpc, by simp, replicate_el hzl _, hvv⟩) h1 e
          refine ⟨_, _, _, by simp [execOp, ho, hk1, hk2, hr]; rfl, ?_, q1, q2, fun b hb => by simp [Gh.give, Gh.newK, hb], rfl⟩
          refine .ar o 0 l0.toNat c0.toNat c0.toNat .ex _ ?_ (by simp [Gh.give]) (by simp [Gh.give, hsz0]) ⟨rfl, fun _ => by simp [Gh.give]⟩ (by omega) (Nat.le_refl _) (by simp [Gh.give]) (by simp) (fun _ => rfl) (by simp)
          show o < G.next
          rw [hs.next]; exact (hs.pc o hp).1
        · simp at hv
    · simp at hc
/-- It is told. -/
theorem heap_tell (hs : SRel G W S) {op : Op} {p : Oper} (hc : cOp P an fid p = some op) {v : AV} {c : Option (List AV) × Option (Nat × List AV)} (hv : heapV E S.next op = some (v, c)) : SRel (G.tell c) W (heapS S c) := by
  have hob : S.objs.get S.next = none := by
    cases hq : S.objs.get S.next with
    | none => rfl
    | some cs => have := (hs.objs _ _ hq).1; omega
  have hab : S.arrs.get S.next = none := by
    cases hq : S.arrs.get S.next with
    | none => rfl
    | some q => have := (hs.arrs _ q.1 q.2 hq).1; omega
  refine tell_srel hs c rfl rfl (fun b => ?_) (fun b => ?_) ?_
  · cases hc1 : c.1 with
    | none =>
      simp only [heapS, hc1]
      split
      · rename_i e; rw [e]; exact hob
      · rfl
    | some cs => simp only [heapS, hc1, Mp.get_set]
  · cases hc2 : c.2 with
    | none =>
      simp only [heapS, hc2]
      split
      · rename_i e; rw [e]; exact hab
      · rfl
    | some cs => simp only [heapS, hc2, Mp.get_set]
  · intro sz xs hc2
    cases op <;> try (simp [heapV] at hv; done)
    case new m z => cases m <;> simp [heapV] at hv; rw [← hv.2] at hc2; simp at hc2
    case box m n x =>
      cases m <;> simp only [heapV, reduceCtorEq] at hv
      obtain ⟨v0, hv0, hv⟩ := Option.bind_eq_some_iff.1 hv
      split at hv
      · simp only [Option.some.injEq, Prod.mk.injEq] at hv
        rw [← hv.2] at hc2; simp at hc2
      · simp at hv
    case mk arr sz0 by0 z l cc =>
      cases arr <;> simp only [heapV, reduceCtorEq] at hv
      obtain ⟨l0, hl0, hv⟩ := Option.bind_eq_some_iff.1 hv
      obtain ⟨c0, hc0, hv⟩ := Option.bind_eq_some_iff.1 hv
      split at hv
      · simp only [Option.some.injEq, Prod.mk.injEq] at hv
        rw [← hv.2] at hc2
        simp only [Option.some.injEq, Prod.mk.injEq] at hc2
        obtain ⟨rfl, rfl⟩ := hc2
        rcases cOp_A_inv hc rfl with ⟨e, ho⟩ | ⟨e, x, ho⟩ | ⟨t, l, cc, ho⟩
        · simp [cOp, ho, Option.bind_eq_some_iff] at hc
        · simp [cOp, ho, Option.bind_eq_some_iff] at hc
        · simp only [cOp, ho] at hc
          split at hc
          · rename_i e hu
            simp only [Option.bind_eq_some_iff] at hc
            obtain ⟨sz, hsz, by_, hby, z, hz, d, hd, hc⟩ := hc
            split at hc
            · simp at hc
            · rename_i hcond
              simp only [not_or] at hcond
              obtain ⟨c1, c2, c3⟩ := hcond
              simp only [Option.bind_eq_some_iff, Option.map_eq_some_iff, Op.mk.injEq] at hc
              obtain ⟨y, hy, w, hw, _, rfl, rfl, rfl, rfl, rfl⟩ := hc
              obtain ⟨i, zv, hi, hsi, hzi, hzr, hzl, hzs, hz1⟩ := zeroV_rel (P := P) G W hz (by simpa using c3) hsz
              exact ⟨by omega, replicate_el hzl _⟩
          · simp at hc
      · simp at hv
end
end Go.Ab
