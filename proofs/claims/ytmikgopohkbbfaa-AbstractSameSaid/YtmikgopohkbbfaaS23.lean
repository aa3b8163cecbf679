/- Every operation that is no call: all together. -/
import Derived.Test.YtmikgopohkbbfaaS22
namespace Go.Ab
open Go.RowKit (Below)
section
variable {P : Program} {an : An} {fid : FuncId} {G0 : Gh} {W0 : World} {G G' : Gh} {W : World} {S S' : St} {rho : Nat → Nat} {E E' : Env} {a : Act} {nt : Nat} {r : Rs}
theorem exec_builtin {ρ : Operand → Value} {o : Oper} {c : Call} {b : Builtin} (ho : o.op = .call c) (hb : c.callee = .builtin b) :
    ∃ k, (execOp ρ o).run P W = (builtin b c.argTypes o.type k (c.args.map ρ)).run P W := by
  exact ⟨_, by simp [execOp, ho, resolve, hb, invoke]; rfl⟩
theorem cOs_len : ∀ {xs : List Operand} {ys : List O}, cOs an xs = some ys → xs.length = ys.length
  | [], ys, h => by simp [cOs] at h; subst h; rfl
  | x :: r, ys, h => by
    simp only [cOs, Option.bind_eq_some_iff, Option.map_eq_some_iff] at h
    obtain ⟨y, hy, zs, hz, rfl⟩ := h
    simp [cOs_len hz]
theorem cOs_one {xs : List Operand} {y : O} (h : cOs an xs = some [y]) : ∃ x, xs = [x] ∧ cO an x = some y := by
  cases xs with
  | nil => simp [cOs] at h
  | cons x r =>
    cases r with
    | nil =>
      simp only [cOs, Option.map_some, Option.bind_eq_some_iff, Option.some.injEq, List.cons.injEq, and_true] at h
      obtain ⟨z, hz, rfl⟩ := h
      exact ⟨x, rfl, hz⟩
    | cons z r => have := cOs_len h; simp at this
theorem cOs_two {xs : List Operand} {y y' : O} (h : cOs an xs = some [y, y']) : ∃ x x', xs = [x, x'] ∧ cO an x = some y ∧ cO an x' = some y' := by
  cases xs with
  | nil => simp [cOs] at h
  | cons x r =>
    simp only [cOs, Option.bind_eq_some_iff, Option.map_eq_some_iff] at h
    obtain ⟨z, hz, zs, hzs, he⟩ := h
    simp only [List.cons.injEq] at he
    obtain ⟨rfl, rfl⟩ := he
    obtain ⟨x', rfl, hx'⟩ := cOs_one hzs
    exact ⟨x, x', rfl, hz, hx'⟩
theorem arr_one {α : Type} {xs : Array α} {x : α} (h : xs.toList = [x]) : xs = #[x] := by apply Array.ext'; simpa using h
theorem arr_two {α : Type} {xs : Array α} {x y : α} (h : xs.toList = [x, y]) : xs = #[x, y] := by apply Array.ext'; simpa using h
theorem cOp_call (hg : Globs an G0 W0) (h : ARel G0 W0 G W rho E a nt) (hs : SRel G W S) {o : Oper} {c : Call} {b : Builtin} {op : Op} (ho : o.op = .call c) (hb : c.callee = .builtin b) (hc : cOp P an fid o = some op) (hst : stepO E S (o.dst.getD 0) op = some (r, E', S')) : Done P G0 W0 nt a (execOp a.eval o) W r E' S' := by
  obtain ⟨kk0, hx⟩ := exec_builtin (P := P) (W := W) (ρ := a.eval) ho hb
  simp only [cOp, ho, hb, Option.bind_eq_some_iff] at hc
  obtain ⟨as, has, hc⟩ := hc
  have one : ∀ {y t}, as = [y] → c.argTypes.toList = [t] → ∃ x, cO an x = some y ∧ c.args.map a.eval = #[a.eval x] ∧ c.argTypes = #[t] := by
    intro y t h1 h2
    subst h1
    obtain ⟨x, hx, hxy⟩ := cOs_one has
    exact ⟨x, hxy, by rw [arr_one hx]; simp, arr_one h2⟩
  have two : ∀ {y y' t t'}, as = [y, y'] → c.argTypes.toList = [t, t'] → ∃ x x', cO an x = some y ∧ cO an x' = some y' ∧ c.args.map a.eval = #[a.eval x, a.eval x'] ∧ c.argTypes = #[t, t'] := by
    intro y y' t t' h1 h2
    subst h1
    obtain ⟨x, x', hx, hxy, hxy'⟩ := cOs_two has
    exact ⟨x, x', hxy, hxy', by rw [arr_two hx]; simp, arr_two h2⟩
  cases b with
  | len =>
    simp only at hc
    split at hc
    · rename_i y t e2
      obtain ⟨x, hxy, q1, q2⟩ := one rfl e2
      split at hc
      · rename_i hu
        simp only [Option.some.injEq] at hc; subst hc
        simp only [stepO, stepOp] at hst
        obtain ⟨v, hv, hst⟩ := oE_some hst
        obtain ⟨n, hn, hst⟩ := oE_some hst
        have := len_rel (P := P) (ty := o.type) (t := t) (str := true) hu (op_rel hg h hxy hv) hn
        exact os_val h hs hst (by rw [hx, q1, q2]; simp [builtin, this]) (.i _ _)
      · rename_i e hu
        simp only [Option.some.injEq] at hc; subst hc
        simp only [stepO, stepOp] at hst
        obtain ⟨v, hv, hst⟩ := oE_some hst
        obtain ⟨n, hn, hst⟩ := oE_some hst
        have := len_rel (P := P) (ty := o.type) (t := t) (str := false) ⟨e, hu⟩ (op_rel hg h hxy hv) hn
        exact os_val h hs hst (by rw [hx, q1, q2]; simp [builtin, this]) (.i _ _)
      · rename_i n e hu
        simp only [Option.some.injEq] at hc; subst hc
        simp only [stepO, stepOp] at hst
        exact os_val h hs hst (u := .int .i64 n) (by rw [hx, q1, q2]; simp [builtin, Builtin.len_, run_underlying hu, goInt]) (.i _ _)
      · simp at hc
    · simp at hc
  | cap =>
    simp only at hc
    split at hc
    · rename_i y t e2
      obtain ⟨x, hxy, q1, q2⟩ := one rfl e2
      split at hc
      · rename_i e hu
        simp only [Option.some.injEq] at hc; subst hc
        simp only [stepO, stepOp] at hst
        obtain ⟨v, hv, hst⟩ := oE_some hst
        obtain ⟨n, hn, hst⟩ := oE_some hst
        have := cap_rel (P := P) (ty := o.type) (t := t) hu (op_rel hg h hxy hv) hn
        exact os_val h hs hst (by rw [hx, q1, q2]; simp [builtin, this]) (.i _ _)
      · simp at hc
    · simp at hc
  | append =>
    simp only at hc
    split at hc
    · rename_i y y' t0 t1 e2
      obtain ⟨x, x', hxy, hxy', q1, q2⟩ := two rfl e2
      split at hc
      · rename_i e hu
        simp only [Option.bind_eq_some_iff] at hc
        obtain ⟨sz, hsz, by_, hby, d, hd, hc⟩ := hc
        split at hc
        · simp at hc
        · rename_i hcond
          simp only [not_or] at hcond
          obtain ⟨c1, c2, c3⟩ := hcond
          have c3 : cZeroOk P e = true := by simpa using c3
          have app : ∀ d1, P.underlying t1 = some d1 → ((∃ e1, d1 = .slice e1) ∨ d1 = .string) → some (Op.app ((an.arr fid).contains d) sz by_ y y') = some op → Done P G0 W0 nt a (execOp a.eval o) W r E' S' := by
            intro d1 hd1 hdd hop
            simp only [Option.some.injEq] at hop; subst hop
            simp only [stepO, stepOp] at hst
            obtain ⟨v, hv, hst⟩ := oE_some hst
            obtain ⟨w, hw, hst⟩ := oE_some hst
            obtain ⟨ys, hys, hst⟩ := oE_some hst
            obtain ⟨⟨z, S1⟩, hz, hst⟩ := oE_some hst
            simp only [Option.some.injEq, Prod.mk.injEq] at hst
            obtain ⟨rfl, rfl, rfl⟩ := hst
            exact app_done (ty := o.type) h hs hu hd1 hdd hsz hby c3 (by omega) (by omega) (op_rel hg h hxy hv) (op_rel hg h hxy' hw) hys hz (fun w W' hr => by rw [hx, q1, q2]; simp [builtin, hr])
          split at hc
          · rename_i e1 hd1; exact app _ hd1 (.inl ⟨e1, rfl⟩) hc
          · rename_i hd1; exact app _ hd1 (.inr rfl) hc
          · rename_i k hd1
            simp only [Option.map_eq_some_iff] at hc
            obtain ⟨zz, hzz, rfl⟩ := hc
            simp only [stepO, stepOp] at hst
            obtain ⟨v, hv, hst⟩ := oE_some hst
            obtain ⟨n, hn, hst⟩ := oE_some hst
            obtain ⟨⟨z, S1⟩, hz, hst⟩ := oE_some hst
            simp only [Option.some.injEq, Prod.mk.injEq] at hst
            obtain ⟨rfl, rfl, rfl⟩ := hst
            obtain ⟨kk, hkk⟩ := bind_nat hg h hxy' hn
            exact apz_done (ty := o.type) (k := kk) h hs hu hd1 hsz hby hzz c3 (by omega) (by omega) (op_rel hg h hxy hv) hz (fun w W' hr => by rw [hx, q1, q2, hkk]; simp [builtin, hr])
          · simp at hc
      · simp at hc
    · simp at hc
  | copy =>
    simp only at hc
    split at hc
    · rename_i y y' t0 t1 e2
      obtain ⟨x, x', hxy, hxy', q1, q2⟩ := two rfl e2
      split at hc
      · rename_i e hu
        simp only [Option.bind_eq_some_iff] at hc
        obtain ⟨sz, hsz, hc⟩ := hc
        split at hc
        · simp at hc
        · rename_i hcond
          simp only [Option.some.injEq] at hc; subst hc
          simp only [stepO, stepOp] at hst
          obtain ⟨v, hv, hst⟩ := oE_some hst
          obtain ⟨w, hw, hst⟩ := oE_some hst
          obtain ⟨ys, hys, hst⟩ := oE_some hst
          obtain ⟨⟨z, S1⟩, hz, hst⟩ := oE_some hst
          simp only [Option.some.injEq, Prod.mk.injEq] at hst
          obtain ⟨rfl, rfl, rfl⟩ := hst
          exact cpy_done (ty := o.type) (t1 := t1) h hs hu hsz (by omega) (op_rel hg h hxy hv) (op_rel hg h hxy' hw) hys hz (fun w W' hr => by rw [hx, q1, q2]; simp [builtin, hr])
      · simp at hc
    · simp at hc
  | clear =>
    simp only at hc
    split at hc
    · rename_i y t e2
      obtain ⟨x, hxy, q1, q2⟩ := one rfl e2
      split at hc
      · rename_i e hu
        simp only [Option.bind_eq_some_iff] at hc
        obtain ⟨sz, hsz, hc⟩ := hc
        split at hc
        · simp at hc
        · rename_i hcond
          simp only [not_or] at hcond
          obtain ⟨c1, c2⟩ := hcond
          have c2 : cZeroOk P e = true := by simpa using c2
          simp only [Option.map_eq_some_iff] at hc
          obtain ⟨zz, hzz, rfl⟩ := hc
          simp only [stepO, stepOp] at hst
          obtain ⟨v, hv, hst⟩ := oE_some hst
          obtain ⟨S1, hz, hst⟩ := oE_some hst
          simp only [Option.some.injEq, Prod.mk.injEq] at hst
          obtain ⟨rfl, rfl, rfl⟩ := hst
          exact clr_done (ty := o.type) h hs hu hsz (by omega) hzz c2 (op_rel hg h hxy hv) hz (fun w W' hr => by rw [hx, q1, q2]; simp [builtin, hr])
      · simp at hc
    · simp at hc
  | max =>
    simp only [Option.some.injEq] at hc
    subst hc
    refine os_mx hg h hs has hst (fun x us u hm hr => ?_)
    rw [hx]
    have : (c.args.map a.eval).toList = x :: us := by simpa using hm
    simp only [builtin, Builtin.max_, this]
    simp only [Bool.false_eq_true, if_false] at hr
    simp [hr]
  | min =>
    simp only [Option.some.injEq] at hc
    subst hc
    refine os_mx hg h hs has hst (fun x us u hm hr => ?_)
    rw [hx]
    have : (c.args.map a.eval).toList = x :: us := by simpa using hm
    simp only [builtin, Builtin.min_, this]
    simp only [if_true] at hr
    simp [hr]
  | _ => simp at hc
end
end Go.Ab
