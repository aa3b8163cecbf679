/- Regions that draw their order: whole. -/
import Derived.Test.YtmikgopohkbbfaaS39
namespace Go.Ab
open Go.RowKit (Below)
/-- How many are not listed. -/
def unl (L : Array Bool) : Nat → Nat
  | 0 => 0
  | k + 1 => unl L k + (if L.getD k false = true then 0 else 1)
theorem unl_set {L : Array Bool} {i : Nat} (hi : i < L.size) (hu : ¬ L.getD i false = true) : ∀ k, unl (L.setIfInBounds i true) k + (if i < k then 1 else 0) = unl L k
  | 0 => by simp [unl]
  | k + 1 => by
    have ih := unl_set hi hu k
    simp only [unl]
    by_cases hk : k = i
    · subst hk
      have h1 : (L.setIfInBounds k true).getD k false = true := (lst_set hi).2 (.inl rfl)
      rw [if_pos h1, if_neg hu, if_pos (Nat.lt_succ_self _)]
      rw [if_neg (Nat.lt_irrefl _)] at ih
      omega
    · have h1 : (L.setIfInBounds i true).getD k false = true ↔ L.getD k false = true := by
        rw [lst_set hi]; simp [hk]
      by_cases h2 : L.getD k false = true
      · rw [if_pos (h1.2 h2), if_pos h2]
        by_cases h3 : i < k
        · rw [if_pos h3] at ih; rw [if_pos (by omega)]; omega
        · rw [if_neg h3] at ih; rw [if_neg (by omega)]; omega
      · rw [if_neg (fun h => h2 (h1.1 h)), if_neg h2]
        by_cases h3 : i < k
        · rw [if_pos h3] at ih; rw [if_pos (by omega)]; omega
        · rw [if_neg h3] at ih; rw [if_neg (by omega)]; omega
theorem unl_zero {L : Array Bool} : ∀ k, unl L k = 0 → ∀ i, i < k → L.getD i false = true
  | 0, _, i, h => by omega
  | k + 1, h0, i, h => by
    simp only [unl] at h0
    by_cases hk : L.getD k false = true
    · rcases Nat.lt_succ_iff_lt_or_eq.1 h with h | rfl
      · exact unl_zero k (by omega) i h
      · exact hk
    · rw [if_neg hk] at h0; omega
theorem mem_ready {ops : Array Oper} {L : Array Bool} {i : Nat} (hs : L.size = ops.size) : i ∈ Region.ready .any ops L ↔ ∃ p, ops[i]? = some p ∧ ¬ L.getD i false = true ∧ ∀ e ∈ p.after.toList, Region.binds .any e = true → L.getD e.on false = true := by
  unfold Region.ready
  rw [List.mem_filter, List.mem_range]
  constructor
  · rintro ⟨hi, h⟩
    have hp : ops[i]? = some ops[i] := Array.getElem?_eq_getElem hi
    rw [hp] at h
    simp only [Option.map_some, Option.getD_some, Bool.and_eq_true, Bool.not_eq_true'] at h
    refine ⟨_, hp, ?_, ?_⟩
    · have : L.getD i true = L.getD i false := by simp [Array.getD, show i < L.size by omega]
      rw [← this, h.1]; simp
    · intro e he hb
      have := h.2
      rw [Array.all_eq_true'] at this
      have := this e (by simpa using he)
      rw [hb] at this; simpa using this
  · rintro ⟨p, hp, hu, he⟩
    have hi : i < ops.size := (Array.getElem?_eq_some_iff.1 hp).1
    refine ⟨hi, ?_⟩
    rw [hp]
    simp only [Option.map_some, Option.getD_some, Bool.and_eq_true, Bool.not_eq_true']
    refine ⟨?_, ?_⟩
    · have : L.getD i true = L.getD i false := by simp [Array.getD, show i < L.size by omega]
      rw [this]; simpa using hu
    · rw [Array.all_eq_true']
      intro e hm
      cases hb : Region.binds .any e with
      | false => rfl
      | true => simpa using he e (by simpa using hm) hb
section
variable {P : Program} {an : An} {fid : FuncId} {rc : Rec} {ops : Array Oper} {ord : List DI} {ef : DI → Bool} {cE : Nat → Env} {cS : Nat → St} {G0 : Gh} {W0 : World} {nt a0 : Nat}
variable {L : Array Bool} {q : Nat} {G : Gh} {W : World} {rho : Nat → Nat} {E : Env} {a : Act} {Q : Exit → Act → World → Prop}
/-- When nothing is ready, all is listed. -/
theorem all_listed (C : Can P an fid rc ops ord ef cE cS) (I : Inv ops ord ef cE cS G0 W0 nt a0 L q G W rho E a) (h : Region.ready .any ops L = []) : ∀ (j : Nat) (x : DI), ord[j]? = some x → Lst L x := by
  intro j
  induction j using Nat.strongRecOn with
  | _ j ih =>
    intro x hx
    by_cases hu : Lst L x
    · exact hu
    · exfalso
      obtain ⟨⟨p, hp, _⟩, han⟩ := C.mem j x hx
      have : x.i ∈ Region.ready .any ops L := by
        refine (mem_ready I.size).2 ⟨p, hp, hu, fun e he hb => ?_⟩
        have hbit : x.an.testBit e.on = true := by rw [han]; exact (before_bit hp _).2 ⟨e, he, hb, .inl rfl⟩
        obtain ⟨k, y, hy, hyi⟩ := C.surj e.on (C.edge x.i p hp e he hb)
        rcases Nat.lt_trichotomy k j with hlt | heq | hlt
        · have := ih k hlt y hy
          rw [← hyi]; exact this
        · subst heq
          rw [hx] at hy; cases hy
          have := (C.so hx).self
          rw [hyi, hbit] at this; simp at this
        · have := (C.po hlt hx hy).an
          rw [hyi, hbit] at this; simp at this
      rw [h] at this; simp at this
theorem sim (hrc : RecOk P an rc) (hg : Globs an G0 W0) (hnt : ((P.funcs[fid]?).map (·.ntmps)).getD 0 = nt) (C : Can P an fid rc ops ord ef cE cS) (F : Front ord ef cE cS a0)
    (h0 : ∀ n t off, (cE 0).p.get n = some (t, off) → n = t ∨ (n, t) ∈ (cE 0).g)
    (hQ : ∀ a' W' G' rho', ARel G0 W0 G' W' rho' (cE ord.length) a' nt → SRel G' W' (cS ord.length) → Q .normal a' W') :
    ∀ (fuel : Nat) {L : Array Bool} {q : Nat} {G : Gh} {W : World} {rho : Nat → Nat} {E : Env} {a : Act}, Inv ops ord ef cE cS G0 W0 nt a0 L q G W rho E a → unl L ops.size ≤ fuel → wpAny P .any ops Q fuel L a W := by
  have fin : ∀ {L : Array Bool} {q : Nat} {G : Gh} {W : World} {rho : Nat → Nat} {E : Env} {a : Act}, Inv ops ord ef cE cS G0 W0 nt a0 L q G W rho E a → Region.ready .any ops L = [] → Q .normal a W := by
    intro L q G W rho E a I hrd
    have hall := all_listed C I hrd
    obtain ⟨s1, s2⟩ := C.still (j := q) ord.length I.qn (Nat.le_refl _) (fun k y hk hkn hy => by
      have hey : ef y = false := by
        cases hey : ef y with
        | false => rfl
        | true => have := (I.ph k y hy hey).2 (hall k y hy); omega
      refine ⟨hey, ?_⟩
      cases hay : isA y.o.op with
      | false => rfl
      | true => have := F.all k y hy hay hey; have := I.qa; omega)
    have hnp : ∀ t, ¬ pendR ord L t := by rintro t ⟨j, x, hx, hu, _⟩; exact hu (hall j x hx)
    have htp : ∀ n, E.t.get n = (cE ord.length).t.get n ∧ E.p.get n = (cE ord.length).p.get n := by
      intro n
      by_cases hw : ∃ (k : Nat) (y : DI), ord[k]? = some y ∧ y.o.dst = some n
      · obtain ⟨k, y, hy, hd⟩ := hw
        exact I.dn k y hy (hall k y hy) n hd
      · have none : ∀ (i : Nat) (z : DI), ord[i]? = some z → z.o.dst ≠ some n := fun i z hz hzd => hw ⟨i, z, hz, hzd⟩
        have hun := (I.un n (fun i z hz _ => none i z hz)).2 (hnp n)
        have hk := C.keep (j := 0) n ord.length (Nat.zero_le _) (Nat.le_refl _) (fun i z _ _ hz => none i z hz)
        exact ⟨hun.1.trans hk.1.symm, hun.2.trans hk.2.symm⟩
    have hrr : ∀ t, E.r.get t = (cE ord.length).r.get t := fun t => by rw [I.rw t (hnp t), s2]
    refine hQ a W G rho (I.a.less (fun n v hv => by rw [(htp n).1]; exact hv) (fun n t off hp => ?_) (fun t cs hr => by rw [hrr]; exact hr)) (by rw [s1]; exact I.s)
    have hp' := (htp n).2.trans hp
    refine ⟨hp', ?_, C.gtold h0 _ (Nat.le_refl _) n t off hp⟩
    rw [← hrr]; exact (I.a.p n t off hp').2.2
  intro fuel
  induction fuel with
  | zero =>
    intro L q G W rho E a I hf
    have hrd : Region.ready .any ops L = [] := by
      rw [List.eq_nil_iff_forall_not_mem]
      intro i hi
      obtain ⟨p, hp, hu, _⟩ := (mem_ready I.size).1 hi
      exact hu (unl_zero _ (by omega) i (Array.getElem?_eq_some_iff.1 hp).1)
    exact ⟨hrd, fin I hrd⟩
  | succ fuel ih =>
    intro L q G W rho E a I hf
    refine ⟨fin I, fun i hi => ?_⟩
    obtain ⟨p, hp, hu, he⟩ := (mem_ready I.size).1 hi
    have hin := (Array.getElem?_eq_some_iff.1 hp).1
    obtain ⟨j, x, hx, hxi⟩ := C.surj i hin
    subst hxi
    refine sim_step hrc hg hnt C F I hx hu (fun p' hp' => by rw [hp] at hp'; cases hp'; exact he) (fun q' G' W' rho' E' a' I' => ih I' ?_)
    have := unl_set (L := L) (i := x.i) (by rw [I.size]; exact hin) hu ops.size
    rw [if_pos hin] at this
    omega
/-! ### The start -/
theorem next_still (C : Can P an fid rc ops ord ef cE cS) {j : Nat} {x : DI} (hx : ord[j]? = some x) (he : ef x = false) : (isA x.o.op = true ∧ isRg x.o.op = false → (cS (j + 1)).next = (cS j).next + 1) ∧ (¬ (isA x.o.op = true ∧ isRg x.o.op = false) → cS (j + 1) = cS j) := by
  obtain ⟨r, u, h1, _⟩ := C.out hx
  refine ⟨?_, ?_⟩
  · rintro ⟨hA, hrg⟩
    have hgn := ((C.so hx).plain hA).1
    have hn : ∀ f as, x.o.op ≠ .call f as := by intro f as e; rw [e] at hA; simp [isA] at hA
    rcases h1 with ⟨hw, _⟩ | ⟨_, hst, _⟩
    · rw [hgn] at hw; simp [wants] at hw
    · rw [stepX_O hn, stepO_heap hA hrg] at hst
      obtain ⟨w, _, hst⟩ := Option.bind_eq_some_iff.1 hst
      simp only [Option.some.injEq, Prod.mk.injEq] at hst
      rw [← hst.2.2]; rfl
  · intro hn
    cases hA : isA x.o.op with
    | false => exact (C.still1 hx he hA).1
    | true =>
      cases hrg : isRg x.o.op with
      | false => exact absurd ⟨hA, hrg⟩ hn
      | true =>
        have h2 := h1.rg hrg (cS j)
        rcases h1 with ⟨_, _, _, h⟩ | ⟨_, hst, _⟩
        · exact h
        · rcases h2 with ⟨hw, _⟩ | ⟨_, hst2, _⟩
          · have hgn := ((C.so hx).plain hA).1
            rw [hgn] at hw; simp [wants] at hw
          · rw [hst] at hst2
            simp only [Option.some.injEq, Prod.mk.injEq] at hst2
            exact hst2.2.2
theorem front_of (C : Can P an fid rc ops ord ef cE cS) : ∃ a0, a0 ≤ ord.length ∧ Front ord ef cE cS a0 := by
  obtain ⟨b, h1, h2, h3⟩ := last_pos (fun k => ∃ y, ord[k]? = some y ∧ isA y.o.op = true ∧ ef y = false) ord.length
  have hall : ∀ (j : Nat) (x : DI), ord[j]? = some x → isA x.o.op = true → ef x = false → j < b := fun j x hx hA he => h2 j (List.getElem?_eq_some_iff.1 hx).1 ⟨x, hx, hA, he⟩
  have hfr : ∀ (j : Nat) (x : DI), ord[j]? = some x → j < b → ef x = false := by
    intro j x hx hj
    rcases h3 with rfl | ⟨k, rfl, y, hy, hA, he⟩
    · omega
    · rcases Nat.lt_or_ge j k with hlt | hge
      · exact (C.po hlt hx hy).front hA he
      · obtain rfl : j = k := by omega
        rw [hx] at hy; cases hy; exact he
  refine ⟨b, h1, hall, ?_, ?_⟩
  · rcases h3 with h | ⟨k, hk, y, hy, hA, he⟩
    · exact .inl h
    · exact .inr ⟨k, y, hk, hy, hA, he⟩
  · intro i j x y hij hx hy hAx hrx hex hAy hry hey
    have hjb := hall j y hy hAy hey
    have mono : ∀ m, i + 1 ≤ m → m ≤ j → (cS (i + 1)).next ≤ (cS m).next := by
      intro m
      induction m with
      | zero => omega
      | succ m ih =>
        intro hm hmj
        by_cases he : m = i
        · subst he; exact Nat.le_refl _
        · have h := ih (by omega) (by omega)
          have hz := List.getElem?_eq_getElem (show m < ord.length by omega)
          have hez := hfr m _ hz (by omega)
          obtain ⟨k1, k2⟩ := next_still C hz hez
          by_cases hc : isA (ord[m]'(by omega)).o.op = true ∧ isRg (ord[m]'(by omega)).o.op = false
          · rw [k1 hc]; omega
          · rw [k2 hc]; exact h
    have := mono j (by omega) (Nat.le_refl _)
    have := (next_still C hx hex).1 ⟨hAx, hrx⟩
    omega
/-- All that is made first on the heap, told. -/
theorem told (C : Can P an fid rc ops ord ef cE cS) (F : Front ord ef cE cS a0) (ha : a0 ≤ ord.length) (hs : SRel G W (cS 0)) : ∀ m, m ≤ a0 → ∃ G', Ext G W G' W ∧ SRel G' W (cS m) ∧ ∀ (j : Nat) (x : DI), j < m → ord[j]? = some x → isA x.o.op = true → isRg x.o.op = false → ef x = false → Prom cE cS G' j x ∧ G.next ≤ (cS j).next
  | 0, _ => ⟨G, Ext.refl _ _, hs, by intro j x h; omega⟩
  | m + 1, hm => by
    obtain ⟨G', e1, e2, e3⟩ := told C F ha hs m (by omega)
    have hx := List.getElem?_eq_getElem (show m < ord.length by omega)
    have he : ef (ord[m]'(by omega)) = false := by
      rcases F.top with h | ⟨k, y, hk, hy, hA, hey⟩
      · omega
      · rcases Nat.lt_or_ge m k with hlt | hge
        · exact (C.po hlt hx hy).front hA hey
        · obtain rfl : m = k := by omega
          rw [hx] at hy; cases hy; exact hey
    obtain ⟨k1, k2⟩ := next_still C hx he
    by_cases hc : isA (ord[m]'(by omega)).o.op = true ∧ isRg (ord[m]'(by omega)).o.op = false
    · obtain ⟨hA, hrg⟩ := hc
      obtain ⟨⟨p, hp, hco⟩, _⟩ := C.mem m _ hx
      obtain ⟨hop, _⟩ := cOper_inv (nt := _) hco rfl
      obtain ⟨r, u, h1, _⟩ := C.out hx
      have hgn := ((C.so hx).plain hA).1
      have hn : ∀ f as, (ord[m]'(by omega)).o.op ≠ .call f as := by intro f as e; rw [e] at hA; simp [isA] at hA
      rcases h1 with ⟨hw, _⟩ | ⟨_, hst, _⟩
      · rw [hgn] at hw; simp [wants] at hw
      · rw [stepX_O hn, stepO_heap hA hrg] at hst
        obtain ⟨⟨v, c⟩, hv, hst⟩ := Option.bind_eq_some_iff.1 hst
        simp only [Option.some.injEq, Prod.mk.injEq] at hst
        refine ⟨G'.tell c, e1.trans (tell_ext e2 c), by rw [← hst.2.2]; exact heap_tell e2 hop hv, ?_⟩
        intro j x hj hxj hAj hrj hej
        have hnx := e2.next
        rcases Nat.lt_or_ge j m with hlt | hge
        · obtain ⟨⟨q1, w, q2⟩, q3⟩ := e3 j x hlt hxj hAj hrj hej
          have hlt' : (cS j).next < G'.next := by rw [hnx]; exact (e2.pc _ q1).1
          refine ⟨⟨((tell_ext e2 c).pend' _ hlt').trans q1, w, ?_⟩, q3⟩
          rw [(tell_ext e2 c).pc' _ hlt']; exact q2
        · obtain rfl : j = m := by omega
          rw [hx] at hxj; cases hxj
          refine ⟨⟨by simp [Gh.tell, hnx], v, ?_⟩, by rw [← hnx]; exact e1.next⟩
          simpa [Gh.tell, hnx] using hv
    · have hS := k2 hc
      refine ⟨G', e1, by rw [hS]; exact e2, ?_⟩
      intro j x hj hxj hAj hrj hej
      rcases Nat.lt_or_ge j m with hlt | hge
      · exact e3 j x hlt hxj hAj hrj hej
      · obtain rfl : j = m := by omega
        rw [hx] at hxj; cases hxj
        exact absurd ⟨hAj, hrj⟩ hc
/-- The frame at the start, without what is to be made anew. -/
def wipeT (E : Env) : List Nat → Env
  | [] => E
  | d :: ds => let E' := wipeT E ds; { t := E'.t.set d none, p := E'.p.set d none, r := E'.r.set d none, g := E'.g }
theorem wipe_get (E : Env) : ∀ (ds : List Nat) (n : Nat), (wipeT E ds).t.get n = (if n ∈ ds then none else E.t.get n) ∧ (wipeT E ds).p.get n = (if n ∈ ds then none else E.p.get n) ∧ (wipeT E ds).r.get n = (if n ∈ ds then none else E.r.get n) ∧ (wipeT E ds).g = E.g
  | [], n => by simp [wipeT]
  | d :: ds, n => by
    obtain ⟨h1, h2, h3, h4⟩ := wipe_get E ds n
    simp only [wipeT, Mp.get_set, List.mem_cons, h1, h2, h3, h4]
    by_cases h : n = d <;> simp [h]
theorem dr_ok (hrc : RecOk P an rc) (hnt : ((P.funcs[fid]?).map (·.ntmps)).getD 0 = nt) : DrOk P an fid rc nt := by
  intro ops d hd β y Q k G0 W0 G W S rho E a hg ha hs hr hnext t
  obtain ⟨hmx, ord, ef, cE, cS, C, hE0, hS0, hk⟩ := can_of (P := P) (an := an) (fid := fid) hd hr
  obtain ⟨a0, ha0, F⟩ := front_of C
  have hsch : Region.schedule (P.follows .mixedOrders) ops t = Region.linearise .any ops t := by
    unfold Region.schedule
    rcases hmx with h | h <;> simp [h]
  rw [hsch]
  refine wpAny_sound ops.size t _ a W ?_
  subst hE0 hS0
  obtain ⟨G1, e1, e2, e3⟩ := told C F ha0 hs a0 (Nat.le_refl _)
  have h0 : ∀ n t off, (cE 0).p.get n = some (t, off) → n = t ∨ (n, t) ∈ (cE 0).g := fun n t off hp => (ha.p n t off hp).2.1
  have hL : ∀ i, ¬ (Array.replicate ops.size false).getD i false = true := by
    intro i
    simp [Array.getD_eq_getD_getElem?, Array.getElem?_replicate]
    split <;> simp
  have hLst : ∀ x, ¬ Lst (Array.replicate ops.size false) x := fun x => hL x.i
  obtain ⟨ds, hds⟩ : ∃ ds : List Nat, ∀ n, n ∈ ds ↔ pendR ord (Array.replicate ops.size false) n := by
    refine ⟨ord.filterMap (fun x => if isRg x.o.op = true then x.o.dst else none), fun n => ?_⟩
    rw [List.mem_filterMap]
    constructor
    · rintro ⟨x, hx, hq⟩
      split at hq
      · rename_i hrg
        obtain ⟨j, hj⟩ := List.getElem?_of_mem hx
        exact ⟨j, x, hj, hLst x, hrg, hq⟩
      · simp at hq
    · rintro ⟨j, x, hx, _, hrg, hq⟩
      exact ⟨x, List.mem_of_getElem? hx, by rw [if_pos hrg]; exact hq⟩
  -- other names of rows that are made anew: there are none
  have hpp : ∀ n t off, (cE 0).p.get n = some (t, off) → n ∉ ds → t ∉ ds := by
    intro n t off hp hn ht
    have hnt' : n ≠ t := by rintro rfl; exact hn ht
    have hgm : (n, t) ∈ (cE 0).g := by
      rcases h0 n t off hp with h | h
      · exact absurd h hnt'
      · exact h
    obtain ⟨j, x, hx, _, hrg, hq⟩ := (hds t).1 ht
    have hgj := C.gmono (j := 0) j (Nat.zero_le _) (by have := (List.getElem?_eq_some_iff.1 hx).1; omega) _ hgm
    obtain ⟨r, u, h1, _⟩ := C.out hx
    have hgn := ((C.so hx).plain (isRg_isA hrg)).1
    rcases h1 with ⟨hw, _⟩ | ⟨_, _, hok⟩
    · rw [hgn] at hw; simp [wants] at hw
    · obtain ⟨cs, hcs⟩ := hok.rg hrg
      have := (hok.nw _ _ hcs).2.2.2
      rw [hq] at this
      have := List.any_eq_false.1 this _ hgj
      simp at this
  have hfrn : ∀ (j : Nat) (x : DI), ord[j]? = some x → j < a0 → ef x = false := by
    intro j x hx hj
    rcases F.top with h | ⟨k, y, hk, hy, hA, hey⟩
    · omega
    · rcases Nat.lt_or_ge j k with hlt | hge
      · exact (C.po hlt hx hy).front hA hey
      · obtain rfl : j = k := by omega
        rw [hx] at hy; cases hy; exact hey
  -- rows that are not made anew stay till then; those that are, stay once made
  have hrow : ∀ (t : Nat) (j m : Nat), j ≤ m → m ≤ a0 → (∀ (k : Nat) (x : DI), j ≤ k → k < m → ord[k]? = some x → ¬ (isRg x.o.op = true ∧ x.o.dst = some t)) → (cE m).r.get t = (cE j).r.get t := by
    intro t j m hjm
    induction m with
    | zero =>
      intro _ _
      obtain rfl : j = 0 := by omega
      rfl
    | succ m ih =>
      intro hm hno
      by_cases hj : j = m + 1
      · subst hj; rfl
      · have h := ih (by omega) (by omega) (fun k x h1 h2 hx => hno k x h1 (by omega) hx)
        have hx := List.getElem?_eq_getElem (show m < ord.length by omega)
        have he := hfrn m _ hx (by omega)
        obtain ⟨r, u, h1, _, _, _, _, h6, h7⟩ := C.out hx
        rw [h6 t]
        have hC : isC (ord[m]'(by omega)).o.op = false := by
          cases hc : isC (ord[m]'(by omega)).o.op with
          | false => rfl
          | true => rw [C.eC hx hc] at he; simp at he
        cases hq : u with
        | id => exact h
        | st t' cs =>
          exfalso
          rcases h1 with ⟨_, _, h, _⟩ | ⟨_, hst, hok⟩
          · rw [hq] at h; simp at h
          · cases hA : isA (ord[m]'(by omega)).o.op with
            | false => have := (hok.pure hC hA).1; rw [hq] at this; simp at this
            | true =>
              cases hrg : isRg (ord[m]'(by omega)).o.op with
              | true => obtain ⟨cs', hcs'⟩ := hok.rg hrg; rw [hq] at hcs'; simp at hcs'
              | false =>
                have hkE : keepsE (ord[m]'(by omega)).o.op = true := by
                  cases hop : (ord[m]'(by omega)).o.op <;> rw [hop] at hA hrg <;> first | (simp [isA] at hA; done) | (simp only [keepsE, hrg, Bool.not_false])
                have := hok.keep hkE
                rw [hq] at this; simp at this
        | nw t' cs =>
          simp only [Ru.get]
          rw [if_neg]
          · exact h
          · rintro rfl
            rcases h1 with ⟨_, _, h, _⟩ | ⟨_, _, hok⟩
            · rw [hq] at h; simp at h
            · exact hno m _ (by omega) (Nat.lt_succ_self _) hx ⟨(hok.nw _ _ hq).2.1, h7 _ _ hq⟩
  have hI : Inv ops ord ef cE cS G0 W0 nt a0 (Array.replicate ops.size false) a0 G1 W rho (wipeT (cE 0) ds) a := by
    refine ⟨?_, e2, by simp, ?_, Nat.le_refl _, ha0, ?_, ?_, ?_, ?_, ?_, ?_, ?_, ?_⟩
    · refine (ha.mono e1).less (fun n v hv => ?_) (fun n t off hp => ?_) (fun t cs hr => ?_)
      · rw [(wipe_get _ ds n).1] at hv
        split at hv
        · simp at hv
        · exact hv
      · rw [(wipe_get _ ds n).2.1] at hp
        split at hp
        · simp at hp
        · rename_i hn
          refine ⟨hp, ?_, ?_⟩
          · rw [(wipe_get _ ds t).2.2.1, if_neg (hpp n t off hp hn)]
            exact (ha.p n t off hp).2.2
          · rw [(wipe_get _ ds t).2.2.2]; exact h0 n t off hp
      · rw [(wipe_get _ ds t).2.2.1] at hr
        split at hr
        · simp at hr
        · exact hr
    · intro i p _ hl; exact absurd hl (hL i)
    · intro j x hx he
      refine ⟨fun h => ?_, fun h => absurd h (hLst x)⟩
      rw [hfrn j x hx h] at he; simp at he
    · intro j x hx hl; exact absurd hl (hLst x)
    · intro n _
      rw [← hds n]
      obtain ⟨w1, w2, _⟩ := wipe_get (cE 0) ds n
      exact ⟨fun h => ⟨by rw [w1, if_pos h], by rw [w2, if_pos h]⟩, fun h => ⟨by rw [w1, if_neg h], by rw [w2, if_neg h]⟩⟩
    · intro t ht
      rw [← hds t] at ht
      rw [(wipe_get _ ds t).2.2.1, if_neg ht]
      refine (hrow t 0 a0 (Nat.zero_le _) (Nat.le_refl _) (fun k x _ _ hx hq => ht ?_)).symm
      exact (hds t).2 ⟨k, x, hx, hLst x, hq.1, hq.2⟩
    · intro t ht
      rw [← hds t] at ht
      rw [(wipe_get _ ds t).2.2.1, if_pos ht]
    · intro n t off hp
      rw [(wipe_get _ ds n).2.1] at hp
      split at hp
      · simp at hp
      · rename_i hn
        rw [← hds t]; exact hpp n t off hp hn
    · intro j x hx _ hrg he d hd
      have hj := F.all j x hx (isRg_isA hrg) he
      refine hrow d (j + 1) a0 (by omega) (Nat.le_refl _) (fun k y hk _ hy hq => ?_)
      have := C.dst1 hy hx hq.2 hd
      omega
    · intro j x hx _ hA hrg he
      have hj := F.all j x hx hA he
      obtain ⟨k1, k2⟩ := e3 j x hj hx hA hrg he
      exact ⟨k1, Nat.le_trans ha.e0.next k2⟩
  refine sim hrc hg hnt C F h0 (fun a' W' G' rho' h' hs' => hnext _ _ _ _ _ _ h' hs' hk) ops.size hI ?_
  have : ∀ k, unl (Array.replicate ops.size false) k ≤ k := by
    intro k
    induction k with
    | zero => simp [unl]
    | succ k ih => simp only [unl]; split <;> omega
  exact this _
end
end Go.Ab
