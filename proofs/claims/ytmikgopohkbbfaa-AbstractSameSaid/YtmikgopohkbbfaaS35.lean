/- The order of one's own: what was asked of it. -/
import Derived.Test.YtmikgopohkbbfaaS34
namespace Go.Ab
open Go.RowKit (Below)
/-! ### What comes before what -/
def anFold (A : Nat → Nat) (m : Nat) (es : List Edge) (s : Nat) : Nat := es.foldl (fun s e => if Region.binds .any e then s ||| 2 ^ e.on ||| (if e.on < m then A e.on else 0) else s) s
theorem anFold_bit (A : Nat → Nat) (m j : Nat) : ∀ (es : List Edge) (s : Nat), (anFold A m es s).testBit j = true ↔ s.testBit j = true ∨ ∃ e ∈ es, Region.binds .any e = true ∧ (e.on = j ∨ (e.on < m ∧ (A e.on).testBit j = true))
  | [], s => by simp [anFold]
  | e :: es, s => by
    have ih := anFold_bit A m j es (if Region.binds .any e then s ||| 2 ^ e.on ||| (if e.on < m then A e.on else 0) else s)
    have : anFold A m (e :: es) s = anFold A m es (if Region.binds .any e then s ||| 2 ^ e.on ||| (if e.on < m then A e.on else 0) else s) := rfl
    rw [this, ih]
    by_cases hb : Region.binds .any e = true
    · simp only [hb, if_true]
      rw [Nat.testBit_or, Nat.testBit_or, Nat.testBit_two_pow]
      constructor
      · rintro (h | ⟨e', he', h⟩)
        · simp only [Bool.or_eq_true, decide_eq_true_eq] at h
          rcases h with (h | h) | h
          · exact .inl h
          · exact .inr ⟨e, by simp, hb, .inl h⟩
          · refine .inr ⟨e, by simp, hb, .inr ?_⟩
            split at h
            · exact ⟨by assumption, h⟩
            · simp at h
        · exact .inr ⟨e', List.mem_cons_of_mem _ he', h⟩
      · rintro (h | ⟨e', he', hb', h⟩)
        · exact .inl (by simp [h])
        · rcases List.mem_cons.1 he' with rfl | he'
          · left
            rcases h with h | ⟨h1, h2⟩
            · simp [h]
            · simp [h1, h2]
          · exact .inr ⟨e', he', hb', h⟩
    · simp only [hb]
      constructor
      · rintro (h | ⟨e', he', h⟩)
        · exact .inl h
        · exact .inr ⟨e', List.mem_cons_of_mem _ he', h⟩
      · rintro (h | ⟨e', he', hb', h⟩)
        · exact .inl h
        · rcases List.mem_cons.1 he' with rfl | he'
          · exact absurd hb' hb
          · exact .inr ⟨e', he', hb', h⟩
def befStep (acc : Array Nat) (o : Oper) : Array Nat := acc.push (o.after.foldl (fun s e => if Region.binds .any e then s ||| 2 ^ e.on ||| acc.getD e.on 0 else s) 0)
theorem befStep_eq (acc : Array Nat) (o : Oper) : befStep acc o = acc.push (anFold (fun k => acc.getD k 0) acc.size o.after.toList 0) := by
  unfold befStep anFold
  rw [← Array.foldl_toList]
  congr 1
  congr 1
  funext s e
  by_cases h : e.on < acc.size
  · simp [h]
  · have : acc.getD e.on 0 = 0 := by simp [Array.getD, h]
    rw [this]; simp [h]
theorem bef_fold : ∀ (l : List Oper) (acc : Array Nat), (l.foldl befStep acc).size = acc.size + l.length ∧ (∀ k, k < acc.size → (l.foldl befStep acc).getD k 0 = acc.getD k 0) ∧
    ∀ k o, l[k]? = some o → (l.foldl befStep acc).getD (acc.size + k) 0 = anFold (fun k => (l.foldl befStep acc).getD k 0) (acc.size + k) o.after.toList 0
  | [], acc => ⟨rfl, fun _ _ => rfl, by simp⟩
  | o :: l, acc => by
    obtain ⟨h1, h2, h3⟩ := bef_fold l (befStep acc o)
    have hs : (befStep acc o).size = acc.size + 1 := by simp [befStep]
    simp only [List.foldl_cons]
    have hold : ∀ k, k < acc.size → (l.foldl befStep (befStep acc o)).getD k 0 = acc.getD k 0 := by
      intro k hk
      rw [h2 k (by omega)]
      simp [befStep, Array.getD, hk, Array.getElem_push, Nat.lt_succ_of_lt hk]
    refine ⟨by rw [h1, hs, List.length_cons]; omega, hold, ?_⟩
    intro k o' hk
    cases k with
    | zero =>
      simp only [List.getElem?_cons_zero, Option.some.injEq] at hk
      subst hk
      rw [Nat.add_zero, h2 acc.size (by omega)]
      have : (befStep acc o).getD acc.size 0 = anFold (fun k => acc.getD k 0) acc.size o.after.toList 0 := by
        rw [befStep_eq]; simp [Array.getD]
      rw [this]
      unfold anFold
      congr 1
      funext s e
      by_cases hb : e.on < acc.size
      · simp only [hb, if_true]; rw [hold _ hb]
      · simp only [hb, if_false]
    | succ k =>
      simp only [List.getElem?_cons_succ] at hk
      have := h3 k o' hk
      rw [hs] at this
      rw [show acc.size + (k + 1) = acc.size + 1 + k by omega]
      exact this
theorem before_bit {ops : Array Oper} {i : Nat} {p : Oper} (hp : ops[i]? = some p) (j : Nat) : ((Region.before ops).getD i 0).testBit j = true ↔ ∃ e ∈ p.after.toList, Region.binds .any e = true ∧ (e.on = j ∨ (e.on < i ∧ ((Region.before ops).getD e.on 0).testBit j = true)) := by
  have hb : Region.before ops = ops.toList.foldl befStep #[] := by
    unfold Region.before
    rw [← Array.foldl_toList]
    rfl
  obtain ⟨_, _, h3⟩ := bef_fold ops.toList #[]
  have := h3 i p (by simpa using hp)
  rw [← hb] at this
  simp only [Array.size_empty, Nat.zero_add] at this
  rw [this, anFold_bit]
  simp
theorem before_size (ops : Array Oper) : (Region.before ops).size = ops.size := by
  have hb : Region.before ops = ops.toList.foldl befStep #[] := by
    unfold Region.before
    rw [← Array.foldl_toList]
    rfl
  rw [hb, (bef_fold ops.toList #[]).1]
  simp
/-! ### The compiled operations -/
section
variable {P : Program} {an : An} {fid : FuncId}
theorem cOps_get {all : Array Oper} : ∀ (ps : List Oper) (l : List AOper), cOps P an fid all ps = some l → l.length = ps.length ∧ ∀ (i : Nat) (o : AOper), l[i]? = some o → ∃ p, ps[i]? = some p ∧ cOper P an fid all p = some o
  | [], l, h => by simp only [cOps, Option.some.injEq] at h; subst h; exact ⟨rfl, by simp⟩
  | p :: ps, l, h => by
    simp only [cOps, Option.bind_eq_some_iff, Option.map_eq_some_iff] at h
    obtain ⟨o, ho, os, hos, rfl⟩ := h
    obtain ⟨k1, k2⟩ := cOps_get ps os hos
    refine ⟨by simp [k1], ?_⟩
    intro i o' hi
    cases i with
    | zero => simp only [List.getElem?_cons_zero, Option.some.injEq] at hi; subst hi; exact ⟨p, rfl, ho⟩
    | succ i => simp only [List.getElem?_cons_succ] at hi; exact k2 i o' hi
theorem dAll_mem {ops : Array Oper} {l : List AOper} (hl : cOps P an fid ops ops.toList = some l) {x : DI} (hx : x ∈ dAll ops l) : (∃ p, ops[x.i]? = some p ∧ cOper P an fid ops p = some x.o) ∧ x.an = (Region.before ops).getD x.i 0 := by
  obtain ⟨h1, h2⟩ := cOps_get _ _ hl
  unfold dAll at hx
  obtain ⟨⟨⟨o, a⟩, i⟩, hm, rfl⟩ := List.mem_map.1 hx
  rw [List.mem_zipIdx_iff_getElem?] at hm
  simp only at hm
  rw [List.getElem?_zip_eq_some] at hm
  obtain ⟨ho, ha⟩ := hm
  obtain ⟨p, hp, hc⟩ := h2 i o ho
  refine ⟨⟨p, by simpa using hp, hc⟩, ?_⟩
  simp only
  have ha' : (Region.before ops)[i]? = some a := by simpa using ha
  simp [Array.getD_eq_getD_getElem?, ha']
theorem pickR_mem {all : List DI} : ∀ (f : Nat) (done rest : List DI), (∀ x ∈ done, x ∈ all) → (∀ x ∈ rest, x ∈ all) → ∀ x ∈ pickR all f done rest, x ∈ all
  | 0, done, rest, h1, h2 => h1
  | f + 1, done, rest, h1, h2 => by
    have go : ∀ x, x ∈ rest → ∀ y ∈ pickR all f (done ++ [x]) (rest.filter fun y => y.i != x.i), y ∈ all := by
      intro x hx
      refine pickR_mem f _ _ (fun y hy => ?_) (fun y hy => h2 y (List.mem_filter.1 hy).1)
      rcases List.mem_append.1 hy with hy | hy
      · exact h1 y hy
      · rw [List.mem_singleton.1 hy]; exact h2 x hx
    simp only [pickR]
    split
    · rename_i x hx; exact go x (List.mem_of_find?_eq_some hx)
    · split
      · rename_i x hx; exact go x (List.mem_of_find?_eq_some hx)
      · exact h1
theorem order_mem {all : List DI} {x : DI} (hx : x ∈ order all) : x ∈ all :=
  pickR_mem _ _ _ (fun _ h => (List.mem_filter.1 h).1) (fun _ h => (List.mem_filter.1 h).1) x hx
theorem pairs_get {ef : DI → Bool} : ∀ (l : List DI), pairsOk ef l = true → (∀ (j : Nat) (x : DI), l[j]? = some x → soloOk x = true) ∧ ∀ (i j : Nat) (x y : DI), i < j → l[i]? = some x → l[j]? = some y → pairOk ef x y = true
  | [], _ => ⟨by simp, by simp⟩
  | z :: l, h => by
    simp only [pairsOk, Bool.and_eq_true] at h
    obtain ⟨⟨h1, h2⟩, h3⟩ := h
    obtain ⟨k1, k2⟩ := pairs_get l h3
    refine ⟨?_, ?_⟩
    · intro j x hj
      cases j with
      | zero => simp only [List.getElem?_cons_zero, Option.some.injEq] at hj; subst hj; exact h1
      | succ j => simp only [List.getElem?_cons_succ] at hj; exact k1 j x hj
    · intro i j x y hij hi hj
      cases j with
      | zero => omega
      | succ j =>
        simp only [List.getElem?_cons_succ] at hj
        cases i with
        | zero =>
          simp only [List.getElem?_cons_zero, Option.some.injEq] at hi
          subst hi
          exact List.all_eq_true.1 h2 y (List.mem_of_getElem? hj)
        | succ i =>
          simp only [List.getElem?_cons_succ] at hi
          exact k2 i j x y (by omega) hi hj
theorem tight_get {ef : DI → Bool} : ∀ (l : List DI) (last : Option Nat), tight ef last l = true →
    (∀ (j : Nat) (x : DI) (z : Nat), last = some z → l[j]? = some x → ef x = false → (∀ m, m < j → ∀ w, l[m]? = some w → ef w = false) → x.an.testBit z = true) ∧
    (∀ (e j : Nat) (x z : DI), l[e]? = some z → l[j]? = some x → e < j → ef z = true → ef x = false → (∀ m, e < m → m < j → ∀ w, l[m]? = some w → ef w = false) → x.an.testBit z.i = true)
  | [], _, _ => ⟨by simp, by simp⟩
  | y :: l, last, h => by
    simp only [tight] at h
    by_cases he : ef y = true
    · simp only [he, if_true] at h
      obtain ⟨k1, k2⟩ := tight_get l _ h
      refine ⟨?_, ?_⟩
      · intro j x z hl hj hx hm
        cases j with
        | zero => simp only [List.getElem?_cons_zero, Option.some.injEq] at hj; subst hj; rw [he] at hx; simp at hx
        | succ j => have := hm 0 (by omega) y (by simp); rw [he] at this; simp at this
      · intro e j x z hz hj hej hz' hx hm
        cases j with
        | zero => omega
        | succ j =>
          simp only [List.getElem?_cons_succ] at hj
          cases e with
          | zero =>
            simp only [List.getElem?_cons_zero, Option.some.injEq] at hz
            subst hz
            exact k1 j x _ rfl hj hx (fun m hmj w hw => hm (m + 1) (by omega) (by omega) w (by simpa using hw))
          | succ e =>
            simp only [List.getElem?_cons_succ] at hz
            exact k2 e j x z hz hj (by omega) hz' hx (fun m h1 h2 w hw => hm (m + 1) (by omega) (by omega) w (by simpa using hw))
    · simp only [he, Bool.false_eq_true, if_false, Bool.and_eq_true] at h
      obtain ⟨h0, h⟩ := h
      obtain ⟨k1, k2⟩ := tight_get l _ h
      refine ⟨?_, ?_⟩
      · intro j x z hl hj hx hm
        cases j with
        | zero =>
          simp only [List.getElem?_cons_zero, Option.some.injEq] at hj
          subst hj
          rw [hl] at h0; exact h0
        | succ j =>
          simp only [List.getElem?_cons_succ] at hj
          exact k1 j x z hl hj hx (fun m hmj w hw => hm (m + 1) (by omega) w (by simpa using hw))
      · intro e j x z hz hj hej hz' hx hm
        cases j with
        | zero => omega
        | succ j =>
          simp only [List.getElem?_cons_succ] at hj
          cases e with
          | zero =>
            simp only [List.getElem?_cons_zero, Option.some.injEq] at hz
            subst hz
            exact absurd hz' he
          | succ e =>
            simp only [List.getElem?_cons_succ] at hz
            exact k2 e j x z hz hj (by omega) hz' hx (fun m h1 h2 w hw => hm (m + 1) (by omega) (by omega) w (by simpa using hw))
theorem chks_get {ef : DI → Bool} : ∀ (l done : List DI), (chks ef done l).length = l.length ∧ ∀ (j : Nat) (x : DI), l[j]? = some x → ∃ c, (chks ef done l)[j]? = some (x.o, c) ∧
    (ef x = true → ∀ y, y ∈ done ∨ (∃ i, i < j ∧ l[i]? = some y) → isL y.o.op = true → x.an.testBit y.i = false → y.o ∈ c) ∧
    (ef x = false → isA x.o.op = true → ∀ y, y ∈ done ∨ (∃ i, i < j ∧ l[i]? = some y) → isL y.o.op = true → y.o ∈ c)
  | [], done => ⟨rfl, by simp⟩
  | z :: l, done => by
    obtain ⟨k1, k2⟩ := chks_get (ef := ef) l (done ++ [z])
    refine ⟨by simp [chks, k1], ?_⟩
    intro j x hj
    cases j with
    | zero =>
      simp only [List.getElem?_cons_zero, Option.some.injEq] at hj
      subst hj
      refine ⟨_, rfl, ?_, ?_⟩
      · rintro he y (hy | ⟨i, hi, _⟩) hl ha
        · rw [he]; simp only [if_true]
          exact List.mem_map.2 ⟨y, List.mem_filter.2 ⟨hy, by simp [hl, ha]⟩, rfl⟩
        · omega
      · rintro he hA y (hy | ⟨i, hi, _⟩) hl
        · rw [he, hA]; simp only [Bool.false_eq_true, if_false, if_true]
          exact List.mem_map.2 ⟨y, List.mem_filter.2 ⟨hy, by simp [hl]⟩, rfl⟩
        · omega
    | succ j =>
      simp only [List.getElem?_cons_succ] at hj
      obtain ⟨c, h1, h2, h3⟩ := k2 j x hj
      have conv : ∀ y, y ∈ done ∨ (∃ i, i < j + 1 ∧ (z :: l)[i]? = some y) → y ∈ done ++ [z] ∨ (∃ i, i < j ∧ l[i]? = some y) := by
        rintro y (hy | ⟨i, hi, hy⟩)
        · exact .inl (List.mem_append_left _ hy)
        · cases i with
          | zero => simp only [List.getElem?_cons_zero, Option.some.injEq] at hy; subst hy; exact .inl (by simp)
          | succ i => simp only [List.getElem?_cons_succ] at hy; exact .inr ⟨i, by omega, hy⟩
      exact ⟨c, by simpa [chks] using h1, fun he y hy => h2 he y (conv y hy), fun he hA y hy => h3 he hA y (conv y hy)⟩
end
/-- The last that is so. -/
theorem last_pos (p : Nat → Prop) : ∀ n, ∃ a, a ≤ n ∧ (∀ j, j < n → p j → j < a) ∧ (a = 0 ∨ ∃ k, a = k + 1 ∧ p k)
  | 0 => ⟨0, by omega, by omega, .inl rfl⟩
  | n + 1 => by
    obtain ⟨a, h1, h2, h3⟩ := last_pos p n
    by_cases h : p n
    · exact ⟨n + 1, by omega, fun j hj _ => hj, .inr ⟨n, rfl, h⟩⟩
    · refine ⟨a, by omega, fun j hj hp => ?_, h3⟩
      rcases Nat.lt_succ_iff_lt_or_eq.1 hj with h' | rfl
      · exact h2 j h' hp
      · exact absurd hp h
end Go.Ab
