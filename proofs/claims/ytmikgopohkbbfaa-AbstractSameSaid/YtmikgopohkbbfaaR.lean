/- How a state of the machine of values lies in the memory of the Go machine: each cell has one owner. -/
import Derived.Test.YtmikgopohkbbfaaB
import Derived.Below
import Derived.Laws.IdiomCopy
import Derived.ArgAppend
import Derived.Laws.MakeOwn
import Derived.WalkKit
namespace Go.Ab
open Go.RowKit (Below)
inductive Own | no | fz | pr | obj (b : Nat) | arr (a : Nat) | tok (k : Nat) deriving DecidableEq
structure Gh where
  kind : Nat → Nat → Own
  mu : Nat → Nat
  al : Nat → Nat × Nat
  asz : Nat → Nat
  alen : Nat → Nat
  ta : Nat → Nat × Nat × Nat
  pend : Nat → Bool
  pc : Nat → Option (List AV) × Option (Nat × List AV)
  next : Nat
  base : Nat
def at_ (W : World) (c j : Nat) : Option Value := W.cell? ⟨c, j, none⟩
def frz_ (W : World) (c j : Nat) : Bool := W.frozen? ⟨c, j, none⟩
/-- These cells lie there, and are never written again. -/
def Froz (G : Gh) (W : World) (c o : Nat) (us : List Value) : Prop := ∀ j u, us[j]? = some u → G.kind c (o + j) = .fz ∧ at_ W c (o + j) = some u
/-- These cells lie there, and are this owner's. -/
def Owns (G : Gh) (W : World) (w : Own) (c o : Nat) (us : List Value) : Prop := ∀ j u, us[j]? = some u → G.kind c (o + j) = w ∧ at_ W c (o + j) = some u ∧ frz_ W c (o + j) = false ∧ u.oneCell' = true
def flat (xs : List AV) : List AV := xs.flatMap AV.cells
mutual
inductive VRel (G : Gh) (W : World) : AV → Value → Prop
  | b (x : Bool) : VRel G W (.b x) (.bool x)
  | i (k : IntKind) (n : Int) : VRel G W (.i k n) (.int k n)
  | s (x : List UInt8) : VRel G W (.s x) (.string ⟨x.toArray⟩)
  | np : VRel G W .np (.pointer none)
  | rf (o off : Nat) (h : o < G.next) (hp : G.pend o = false) : VRel G W (.rf o off) (.pointer (some ⟨G.mu o, off, none⟩))
  | fz (cs : List AV) (c o : Nat) (us : List Value) (hf : Froz G W c o us) (h1 : ∀ u ∈ us, u.oneCell' = true) (h : VRels G W cs us) : VRel G W (.fz cs) (.pointer (some ⟨c, o, none⟩))
  | ap (a idx off : Nat) (h : a < G.next) (hp : G.pend a = false) : VRel G W (.ap a idx off) (.pointer (some ⟨(G.al a).1, (G.al a).2 + idx * G.asz a + off, none⟩))
  | nl (sz : Nat) : VRel G W (.sl sz [] .nl) (.slice none 0 0)
  | sl (sz : Nat) (xs : List AV) (t : Tk) (c o cap : Nat) (us : List Value) (hsz : 0 < sz) (hel : ∀ x ∈ xs, x.cells.length = sz) (hf : Froz G W c o us) (h1 : ∀ u ∈ us, u.oneCell' = true) (h : VRels G W (flat xs) us) (hcap : xs.length ≤ cap)
      (hnl : t ≠ .nl) (hex : t = .ex → cap = xs.length ∧ G.base ≤ c ∧ ∀ j, G.kind c j = .fz) (hid : ∀ k, t = .id k → k < G.next ∧ (xs.length < cap → G.ta k = (c, o + xs.length * sz, o + cap * sz))) : VRel G W (.sl sz xs t) (.slice (some ⟨c, o, none⟩) xs.length cap)
  | se (sz : Nat) (ad : Addr) : VRel G W (.sl sz [] .no) (.slice (some ad) 0 0)
  | ar (a off len cap cap' : Nat) (t : Tk) (ad : Addr) (h : a < G.next) (hp : G.pend a = false) (hsz : 0 < G.asz a) (had : ad.spot = none ∧ (0 < cap' → ad = ⟨(G.al a).1, (G.al a).2 + off * G.asz a, none⟩)) (hlen : len ≤ cap) (hcap : cap ≤ cap') (hin : off + cap ≤ G.alen a)
      (hnl : t ≠ .nl) (hex : t = .ex → cap' = cap) (hid : ∀ k, t = .id k → k < G.next ∧ (G.alen a < off + cap' → G.ta k = ((G.al a).1, (G.al a).2 + G.alen a * G.asz a, (G.al a).2 + (off + cap') * G.asz a))) : VRel G W (.ar a off len cap t) (.slice (some ad) len cap')
  | fn (f : FuncId) (first cap : List AV) (us vs : List Value) (h1 : VRels G W first us) (h2 : VRels G W cap vs) : VRel G W (.fn f first cap) (.func (.func f) us.toArray vs.toArray)
  | nf : VRel G W .nf .nilFunc
  | ag (cs : List AV) (us : List Value) (h1 : ∀ u ∈ us, u.oneCell' = true) (h : VRels G W cs us) : VRel G W (.ag cs) (.agg us.toArray)
  | tu (cs : List AV) (us : List Value) (h : VRels G W cs us) : VRel G W (.tu cs) (.tuple us.toArray)
  | ni : VRel G W .ni .nilIface
inductive VRels (G : Gh) (W : World) : List AV → List Value → Prop
  | nil : VRels G W [] []
  | cons (v : AV) (u : Value) (vs : List AV) (us : List Value) (h : VRel G W v u) (r : VRels G W vs us) : VRels G W (v :: vs) (u :: us)
end
/-- What is read stays. -/
structure VExt (G : Gh) (W : World) (G' : Gh) (W' : World) : Prop where
  fz : ∀ c j, G.kind c j = .fz → G'.kind c j = .fz ∧ ∀ u, at_ W c j = some u → at_ W' c j = some u
  next : G.next ≤ G'.next
  mu : ∀ b, b < G.next → G.pend b = false → G'.mu b = G.mu b
  al : ∀ b, b < G.next → G.pend b = false → G'.al b = G.al b
  asz : ∀ b, b < G.next → G.pend b = false → G'.asz b = G.asz b
  alen : ∀ b, b < G.next → G.pend b = false → G'.alen b = G.alen b
  ta : ∀ b, b < G.next → G'.ta b = G.ta b
  pend : ∀ b, b < G.next → G.pend b = false → G'.pend b = false
  base : G'.base = G.base
  below : Below G.base W W'
/-- And so does what is private. -/
structure Ext (G : Gh) (W : World) (G' : Gh) (W' : World) : Prop extends VExt G W G' W' where
  pr : ∀ c j, G.kind c j = .pr → G'.kind c j = .pr ∧ at_ W' c j = at_ W c j ∧ frz_ W' c j = frz_ W c j
  pend' : ∀ b, b < G.next → G'.pend b = G.pend b
  pc' : ∀ b, b < G.next → G'.pc b = G.pc b
theorem VExt.refl (G : Gh) (W : World) : VExt G W G W :=
  ⟨fun _ _ h => ⟨h, fun _ h => h⟩, Nat.le_refl _, fun _ _ _ => rfl, fun _ _ _ => rfl, fun _ _ _ => rfl, fun _ _ _ => rfl, fun _ _ => rfl, fun _ _ h => h, rfl, Below.refl _ _⟩
theorem Ext.refl (G : Gh) (W : World) : Ext G W G W := { toVExt := VExt.refl G W, pr := fun _ _ h => ⟨h, rfl, rfl⟩, pend' := fun _ _ => rfl, pc' := fun _ _ => rfl }
theorem VExt.trans {G G1 G2 : Gh} {W W1 W2 : World} (h : VExt G W G1 W1) (k : VExt G1 W1 G2 W2) : VExt G W G2 W2 where
  fz c j hk := ⟨(k.fz c j (h.fz c j hk).1).1, fun u hu => (k.fz c j (h.fz c j hk).1).2 u ((h.fz c j hk).2 u hu)⟩
  next := Nat.le_trans h.next k.next
  mu b hb hp := (k.mu b (Nat.lt_of_lt_of_le hb h.next) (h.pend b hb hp)).trans (h.mu b hb hp)
  al b hb hp := (k.al b (Nat.lt_of_lt_of_le hb h.next) (h.pend b hb hp)).trans (h.al b hb hp)
  asz b hb hp := (k.asz b (Nat.lt_of_lt_of_le hb h.next) (h.pend b hb hp)).trans (h.asz b hb hp)
  alen b hb hp := (k.alen b (Nat.lt_of_lt_of_le hb h.next) (h.pend b hb hp)).trans (h.alen b hb hp)
  ta b hb := (k.ta b (Nat.lt_of_lt_of_le hb h.next)).trans (h.ta b hb)
  pend b hb hp := k.pend b (Nat.lt_of_lt_of_le hb h.next) (h.pend b hb hp)
  base := k.base.trans h.base
  below := h.below.trans (h.base ▸ k.below)
theorem Ext.trans {G G1 G2 : Gh} {W W1 W2 : World} (h : Ext G W G1 W1) (k : Ext G1 W1 G2 W2) : Ext G W G2 W2 where
  toVExt := h.toVExt.trans k.toVExt
  pr c j hk := by
    obtain ⟨a, b, d⟩ := h.pr c j hk
    obtain ⟨a', b', d'⟩ := k.pr c j a
    exact ⟨a', b'.trans b, d'.trans d⟩
  pend' b hb := (k.pend' b (Nat.lt_of_lt_of_le hb h.next)).trans (h.pend' b hb)
  pc' b hb := (k.pc' b (Nat.lt_of_lt_of_le hb h.next)).trans (h.pc' b hb)
theorem Froz.mono {G G' : Gh} {W W' : World} {c o : Nat} {us : List Value} (h : Froz G W c o us) (e : VExt G W G' W') : Froz G' W' c o us :=
  fun j u hu => let ⟨a, b⟩ := h j u hu; ⟨(e.fz _ _ a).1, (e.fz _ _ a).2 u b⟩
mutual
theorem VRel.mono {G G' : Gh} {W W' : World} (e : VExt G W G' W') : ∀ {v : AV} {u : Value}, VRel G W v u → VRel G' W' v u
  | _, _, .b x => .b x
  | _, _, .i k n => .i k n
  | _, _, .s x => .s x
  | _, _, .np => .np
  | _, _, .rf o off h hp => by rw [← e.mu o h hp]; exact .rf o off (Nat.lt_of_lt_of_le h e.next) (e.pend o h hp)
  | _, _, .fz cs c o us hf h1 h => .fz cs c o us (hf.mono e) h1 (VRels.mono e h)
  | _, _, .ap a idx off h hp => by rw [← e.al a h hp, ← e.asz a h hp]; exact .ap a idx off (Nat.lt_of_lt_of_le h e.next) (e.pend a h hp)
  | _, _, .nl sz => .nl sz
  | _, _, .se sz ad => .se sz ad
  | _, _, .sl sz xs t c o cap us hsz hel hf h1 h hcap hnl hex hid => .sl sz xs t c o cap us hsz hel (hf.mono e) h1 (VRels.mono e h) hcap hnl (fun he => ⟨(hex he).1, by rw [e.base]; exact (hex he).2.1, fun j => (e.fz _ _ ((hex he).2.2 j)).1⟩)
      (fun k hk => ⟨Nat.lt_of_lt_of_le (hid k hk).1 e.next, fun hl => by rw [e.ta k (hid k hk).1]; exact (hid k hk).2 hl⟩)
  | _, _, .ar a off len cap cap' t ad h hp hsz had hlen hcap hin hnl hex hid => by
      refine .ar a off len cap cap' t ad (Nat.lt_of_lt_of_le h e.next) (e.pend a h hp) ?_ ?_ hlen hcap ?_ hnl hex ?_
      · rw [e.asz a h hp]; exact hsz
      · rw [e.asz a h hp, e.al a h hp]; exact had
      · rw [e.alen a h hp]; exact hin
      · intro k hk
        refine ⟨Nat.lt_of_lt_of_le (hid k hk).1 e.next, fun hl => ?_⟩
        rw [e.ta k (hid k hk).1, e.asz a h hp, e.al a h hp, e.alen a h hp]
        rw [e.alen a h hp] at hl
        exact (hid k hk).2 hl
  | _, _, .fn f first cap us vs h1 h2 => .fn f first cap us vs (VRels.mono e h1) (VRels.mono e h2)
  | _, _, .nf => .nf
  | _, _, .ag cs us h1 h => .ag cs us h1 (VRels.mono e h)
  | _, _, .tu cs us h => .tu cs us (VRels.mono e h)
  | _, _, .ni => .ni
theorem VRels.mono {G G' : Gh} {W W' : World} (e : VExt G W G' W') : ∀ {vs : List AV} {us : List Value}, VRels G W vs us → VRels G' W' vs us
  | _, _, .nil => .nil
  | _, _, .cons v u vs us h r => .cons v u vs us (VRel.mono e h) (VRels.mono e r)
end
theorem VRels.length {G : Gh} {W : World} : ∀ {vs : List AV} {us : List Value}, VRels G W vs us → us.length = vs.length
  | _, _, .nil => rfl
  | _, _, .cons _ _ _ _ _ r => by simp [VRels.length r]
theorem VRels.get {G : Gh} {W : World} : ∀ {vs : List AV} {us : List Value}, VRels G W vs us → ∀ {j : Nat} {v : AV}, vs[j]? = some v → ∃ u, us[j]? = some u ∧ VRel G W v u
  | _, _, .nil, j, v, hj => by simp at hj
  | _, _, .cons x u vs us h r, 0, v, hj => by simp at hj; subst hj; exact ⟨u, by simp, h⟩
  | _, _, .cons x u vs us h r, j + 1, v, hj => by simp at hj; obtain ⟨w, hw, hv⟩ := VRels.get r hj; exact ⟨w, by simpa using hw, hv⟩
theorem VRels.append {G : Gh} {W : World} : ∀ {vs : List AV} {us : List Value} {ws : List AV} {xs : List Value}, VRels G W vs us → VRels G W ws xs → VRels G W (vs ++ ws) (us ++ xs)
  | _, _, _, _, .nil, h => h
  | _, _, _, _, .cons v u vs us h r, k => .cons v u _ _ h (VRels.append r k)
theorem VRels.drop {G : Gh} {W : World} : ∀ (n : Nat) {vs : List AV} {us : List Value}, VRels G W vs us → VRels G W (vs.drop n) (us.drop n)
  | 0, _, _, h => h
  | _ + 1, _, _, .nil => .nil
  | n + 1, _, _, .cons _ _ _ _ _ r => VRels.drop n r
theorem VRels.take {G : Gh} {W : World} : ∀ (n : Nat) {vs : List AV} {us : List Value}, VRels G W vs us → VRels G W (vs.take n) (us.take n)
  | 0, _, _, _ => by simpa using VRels.nil
  | _ + 1, _, _, .nil => .nil
  | n + 1, _, _, .cons _ _ _ _ h r => .cons _ _ _ _ h (VRels.take n r)
/-- A frame, entered at G0 and W0. -/
structure ARel (G0 : Gh) (W0 : World) (G : Gh) (W : World) (rho : Nat → Nat) (E : Env) (a : Act) (nt : Nat) : Prop where
  e0 : Ext G0 W0 G W
  f0 : ∀ c j, G0.kind c j ≠ .no → c < W0.heap.size
  size : a.tmps.size = nt
  defers : a.defers = []
  t : ∀ n v, E.t.get n = some v → ∃ u, a.tmps[n]? = some u ∧ VRel G W v u
  p : ∀ n t off, E.p.get n = some (t, off) → a.tmps[n]? = some (.pointer (some ⟨rho t, off, none⟩)) ∧ (n = t ∨ (n, t) ∈ E.g) ∧ (E.r.get t).isSome
  r : ∀ t cs, E.r.get t = some cs → W0.heap.size ≤ rho t ∧ rho t < W.heap.size ∧ ∃ us, VRels G W cs us ∧ Owns G W .pr (rho t) 0 us
  inj : ∀ t t' cs cs', E.r.get t = some cs → E.r.get t' = some cs' → rho t = rho t' → t = t'
/-- A state. -/
structure SRel (G : Gh) (W : World) (S : St) : Prop where
  next : G.next = S.next
  objs : ∀ o cs, S.objs.get o = some cs → o < S.next ∧ (G.pend o = false → ∃ us, VRels G W cs us ∧ Owns G W (.obj o) (G.mu o) 0 us)
  arrs : ∀ a sz xs, S.arrs.get a = some (sz, xs) → a < S.next ∧ 0 < sz ∧ (∀ x ∈ xs, x.cells.length = sz) ∧ (G.pend a = false → G.asz a = sz ∧ G.alen a = xs.length ∧ ∃ us, VRels G W (flat xs) us ∧ Owns G W (.arr a) (G.al a).1 (G.al a).2 us)
  toks : ∀ k, S.toks.get k = some () → k < S.next ∧ ∀ j, (G.ta k).2.1 ≤ j → j < (G.ta k).2.2 → G.kind (G.ta k).1 j = .tok k ∧ (at_ W (G.ta k).1 j).isSome = true ∧ frz_ W (G.ta k).1 j = false
  fresh : ∀ c j, G.kind c j ≠ .no → c < W.heap.size
  base : ∀ c j, G.kind c j ≠ .no → G.kind c j ≠ .fz → G.base ≤ c
  hbase : G.base ≤ W.heap.size
  pc : ∀ o, G.pend o = true → o < S.next ∧ S.objs.get o = (G.pc o).1 ∧ S.arrs.get o = (G.pc o).2
theorem ARel.mono {G0 : Gh} {W0 : World} {G G' : Gh} {W W' : World} {rho : Nat → Nat} {E : Env} {a : Act} {nt : Nat} (h : ARel G0 W0 G W rho E a nt) (e : Ext G W G' W') : ARel G0 W0 G' W' rho E a nt where
  e0 := h.e0.trans e
  f0 := h.f0
  size := h.size
  defers := h.defers
  t n v hv := let ⟨u, hu, r⟩ := h.t n v hv; ⟨u, hu, r.mono e.toVExt⟩
  p := h.p
  r t cs hr := by
    obtain ⟨h0, hs, us, hv, ho⟩ := h.r t cs hr
    refine ⟨h0, Nat.lt_of_lt_of_le hs e.below.size, us, VRels.mono e.toVExt hv, fun j u hu => ?_⟩
    obtain ⟨a, b, c, d⟩ := ho j u hu
    obtain ⟨a', b', c'⟩ := e.pr _ _ a
    exact ⟨a', b'.trans b, c'.trans c, d⟩
  inj := h.inj
/-! ### New blocks; cells that are set -/
theorem at_alloc {W : World} {o : Obj} {c j : Nat} (h : c < W.heap.size) : at_ (W.alloc o) c j = at_ W c j := World.cell?_of_block (w := W) (w' := W.alloc o) (Below.heap_alloc W o c h)
theorem frz_alloc {W : World} {o : Obj} {c j : Nat} (h : c < W.heap.size) : frz_ (W.alloc o) c j = frz_ W c j := World.frozen?_of_block (w := W) (w' := W.alloc o) (Below.heap_alloc W o c h)
theorem at_new' (W : World) (us : List Value) (e : TypeId) (f : Nat × Nat) (j : Nat) : at_ (W.alloc (.cells us.toArray e f)) W.heap.size j = us[j]? := by
  unfold at_ World.cell?
  rw [show (W.alloc (.cells us.toArray e f)).heap[W.heap.size]? = some (.cells us.toArray e f) from by show (W.heap.push _)[W.heap.size]? = _; simp]
  simp
theorem at_new (W : World) (us : List Value) (e : TypeId) (j : Nat) : at_ (W.alloc (.cells us.toArray e)) W.heap.size j = us[j]? := at_new' W us e _ j
theorem frz_new (W : World) (us : List Value) (e : TypeId) (j : Nat) : frz_ (W.alloc (.cells us.toArray e)) W.heap.size j = false := by
  unfold frz_ World.frozen?
  rw [show (W.alloc (.cells us.toArray e)).heap[W.heap.size]? = some (.cells us.toArray e) from by show (W.heap.push _)[W.heap.size]? = _; simp]
  simp
end Go.Ab
