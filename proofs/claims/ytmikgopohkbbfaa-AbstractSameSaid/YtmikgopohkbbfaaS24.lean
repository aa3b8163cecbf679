/- Every operation that is no call: all together. -/
import Derived.Test.YtmikgopohkbbfaaS23
namespace Go.Ab
open Go.RowKit (Below)
section
variable {P : Program} {an : An} {fid : FuncId} {G0 : Gh} {W0 : World} {G G' : Gh} {W : World} {S S' : St} {rho : Nat → Nat} {E E' : Env} {a : Act} {nt : Nat} {r : Rs}
theorem run_fieldAt' {s : TypeId} {fields : Array Field} {j n : Nat} {fd : Field} {c o : Nat} (hu : P.underlying s = some (.struct fields)) (hf : fields[j]? = some fd) (hn : cSize P fd.type = some n) (h0 : n ≠ 0) :
    (Instr.fieldAt s (.pointer (some ⟨c, o, none⟩)) j).run P W = .ok (.pointer (some ⟨c, o + fd.offset, none⟩)) W := by
  simp [Instr.fieldAt, run_underlying hu, hf, Instr.sureAddr, fieldPlace, run_sizeOf hn, h0, Addr.add_lit]
theorem op_sound (hg : Globs an G0 W0) (h : ARel G0 W0 G W rho E a nt) (hs : SRel G W S) {o : Oper} {op : Op} (hc : cOp P an fid o = some op) (hst : stepO E S (o.dst.getD 0) op = some (r, E', S')) : Done P G0 W0 nt a (execOp a.eval o) W r E' S' := by
  cases ho : o.op with
  | move x =>
    simp only [cOp, ho, Option.map_eq_some_iff] at hc
    obtain ⟨y, hy, rfl⟩ := hc
    exact os_mv hg h hs hy hst (by simp [execOp, ho])
  | assign x =>
    simp only [cOp, ho, Option.map_eq_some_iff] at hc
    obtain ⟨y, hy, rfl⟩ := hc
    exact os_mv hg h hs hy hst (by simp [execOp, ho])
  | pick c x y =>
    simp only [cOp, ho, Option.bind_eq_some_iff, Option.map_eq_some_iff] at hc
    obtain ⟨y1, h1, y2, h2, y3, h3, rfl⟩ := hc
    exact os_pick hg h hs h1 h2 h3 hst (fun b hb => by simp [execOp, ho, hb, asBool])
  | alloc e =>
    simp only [cOp, ho, Option.bind_eq_some_iff, Option.map_eq_some_iff] at hc
    obtain ⟨z, hz, d, hd, rfl⟩ := hc
    exact os_new h hs hz hst (fun w W' hr => by simp [execOp, ho, hr])
  | box e x =>
    simp only [cOp, ho, Option.bind_eq_some_iff, Option.map_eq_some_iff] at hc
    obtain ⟨n, hn, y, hy, d, hd, rfl⟩ := hc
    exact os_box (e := e) hg h hs hy hst (fun w W' hr => by simp [execOp, ho, hr])
  | build t ps =>
    simp only [cOp, ho, Option.bind_eq_some_iff] at hc
    obtain ⟨z, hz, hc⟩ := hc
    have go : ∀ qs, some (Op.build z qs) = some op → ((∃ fields places, P.underlying t = some (.struct fields) ∧ fields.toList.mapM (fun f => (P.info? f.type).map fun i => (f.offset, i.size)) = some places ∧ cPartsS an places ps.toList = some qs) ∨ (∃ l e n, P.underlying t = some (.array l e) ∧ cSize P e = some n ∧ cPartsA an n ps.toList = some qs)) → Done P G0 W0 nt a (execOp a.eval o) W r E' S' := by
      intro qs hq hp
      simp only [Option.some.injEq] at hq; subst hq
      simp only [stepO, stepOp] at hst
      obtain ⟨cs, hcs, hst⟩ := oE_some hst
      simp only [Option.some.injEq, Prod.mk.injEq] at hst
      obtain ⟨rfl, rfl, rfl⟩ := hst
      exact build_done hg h hs hz hp hcs (fun w hr => by simp [execOp, ho, hr])
    split at hc
    · rename_i fields hu
      simp only [Option.bind_eq_some_iff, Option.map_eq_some_iff] at hc
      obtain ⟨places, hp, qs, hq, rfl⟩ := hc
      exact go qs rfl (.inl ⟨fields, places, hu, hp, hq⟩)
    · rename_i l e hu
      simp only [Option.bind_eq_some_iff, Option.map_eq_some_iff] at hc
      obtain ⟨n, hn, qs, hq, rfl⟩ := hc
      exact go qs rfl (.inr ⟨l, e, n, hu, hn, hq⟩)
    · simp at hc
  | buildSlice t len ps =>
    simp only [cOp, ho] at hc
    split at hc
    · rename_i e hu
      simp only [Option.bind_eq_some_iff] at hc
      obtain ⟨sz, hsz, z, hz, hc⟩ := hc
      split at hc
      · simp at hc
      · rename_i hcond
        simp only [not_or] at hcond
        obtain ⟨c1, c2, c3⟩ := hcond
        simp only [Option.map_eq_some_iff] at hc
        obtain ⟨qs, hq, rfl⟩ := hc
        simp only [stepO, stepOp] at hst
        obtain ⟨xs, hxs, hst⟩ := oE_some hst
        simp only [Option.some.injEq, Prod.mk.injEq] at hst
        obtain ⟨rfl, rfl, rfl⟩ := hst
        exact bsl_done hg h hs hu hsz hz (by simpa using c3) (by omega) (by omega) hq hxs (fun w W' hr => by simp [execOp, ho, hr])
    · simp at hc
  | load t x =>
    simp only [cOp, ho, Option.bind_eq_some_iff, Option.map_eq_some_iff] at hc
    obtain ⟨g, hag, n, hn, y, hy, rfl⟩ := hc
    exact os_ld hg h hs hy hag hn hst (fun w W' hr => by simp [execOp, ho, hr])
  | store t x z =>
    simp only [cOp, ho, Option.bind_eq_some_iff, Option.map_eq_some_iff] at hc
    obtain ⟨n, hn, y, hy, w, hw, rfl⟩ := hc
    exact os_st hg h hs hy hw hn hst (fun W' hr => by simp [execOp, ho, hr])
  | nilCheck x =>
    simp only [cOp, ho, Option.map_eq_some_iff] at hc
    obtain ⟨y, hy, rfl⟩ := hc
    refine os_nchk hg h hs hy hst ?_
    rintro (⟨p, hp⟩ | ⟨f, p, q, hp⟩) <;> simp [execOp, ho, hp]
  | binOp bop t x z k =>
    simp only [cOp, ho, Option.bind_eq_some_iff] at hc
    obtain ⟨y, hy, w, hw, hc⟩ := hc
    have hrun : ∀ (bo : BinOp), bo = bop → ∀ u, (eqGuard bo t x z (a.eval x) (a.eval z)).run P W = .ok () W → (binOp bo t (a.eval x) (a.eval z)).run P W = .ok u W → (execOp a.eval o).run P W = .ok (.value u) W := by
      intro bo hbo u h1 h2
      subst hbo
      simp [execOp, ho, h1, h2]
    have go : ∀ ec, EcOk P t ec → (isEqNe bop).map (fun g => Op.eqs g ec y w) = some op → Done P G0 W0 nt a (execOp a.eval o) W r E' S' := by
      intro ec hec hq
      simp only [Option.map_eq_some_iff] at hq
      obtain ⟨g, hgg, rfl⟩ := hq
      have hbo : (if g then BinOp.neq else .eql) = bop := by
        cases bop <;> simp [isEqNe] at hgg <;> subst hgg <;> rfl
      exact os_eqs hg h hs hec hy hw hst (hrun _ hbo)
    split at hc
    · simp only [Option.some.injEq] at hc; subst hc
      exact os_bin hg h hs hy hw hst (hrun _ rfl)
    · simp only [Option.some.injEq] at hc; subst hc
      exact os_bin hg h hs hy hw hst (hrun _ rfl)
    · rename_i hu; exact go .b hu hc
    · rename_i e hu; exact go .p ⟨e, hu⟩ hc
    · rename_i e hu; exact go .sl ⟨e, hu⟩ hc
    · rename_i hu; exact go .f ⟨_, _, _, hu⟩ hc
    · rename_i fields hu
      split at hc
      · rename_i hcond
        simp only [Bool.and_eq_true, Bool.not_eq_true'] at hcond
        exact go (.st _) ⟨fields, hu, hcond.1.1, hcond.1.2, hcond.2, rfl⟩ hc
      · simp at hc
    · simp at hc
  | unOp uop t x =>
    simp only [cOp, ho, Option.map_eq_some_iff] at hc
    obtain ⟨y, hy, rfl⟩ := hc
    exact os_un hg h hs hy hst (fun u hr => by simp [execOp, ho, hr])
  | convert src dst x =>
    simp only [cOp, ho, Option.bind_eq_some_iff] at hc
    obtain ⟨y, hy, hc⟩ := hc
    split at hc
    · rename_i k1 k2 h1 h2
      simp only [Option.some.injEq] at hc; subst hc
      exact os_cvi hg h hs hy hst (fun k n hk => by simp [execOp, ho, convert, run_underlying h1, run_underlying h2, hk, Conv.intToInt])
    · rename_i h1 h2
      simp only [Option.some.injEq] at hc; subst hc
      simp only [stepO, stepOp] at hst
      obtain ⟨v, hv, hst⟩ := oE_some hst
      obtain ⟨w, hw, hst⟩ := oE_some hst
      obtain ⟨z, hz, hst⟩ := oE_some hst
      simp only [Env.op, Option.some.injEq] at hw
      subst hw
      have hr := op_rel hg h hy hv
      obtain ⟨b, rfl⟩ : ∃ b, v = .s b := by
        cases v <;> simp [binV] at hz
        exact ⟨_, rfl⟩
      simp only [binV, binS, List.length_nil, Nat.add_zero, List.append_nil] at hz
      split at hz
      · simp only [Option.some.injEq] at hz
        subst hz
        generalize hu : a.eval x = u at hr
        cases hr
        exact os_val h hs hst (u := .string ⟨b.toArray⟩) (by simp [execOp, ho, convert, run_underlying h1, run_underlying h2, hu]) (.s b)
      · simp at hz
    · rename_i e h1 h2
      split at hc
      · rename_i he
        simp only [if_true, Option.some.injEq] at hc; subst hc
        have he' : P.underlying e = some (.int .u8) := he
        exact os_cvs hg h hs h1 he' h2 hy hst (fun u hr => by simp [execOp, ho, hr])
      · simp at hc
    · rename_i e h1 h2
      split at hc
      · rename_i he
        simp only [if_true, Option.some.injEq] at hc; subst hc
        have he' : P.underlying e = some (.int .u8) := he
        exact os_cvb hg h hs h1 h2 he' hy hst (fun u W' hr => by simp [execOp, ho, hr])
      · simp at hc
    · rename_i e e' h1 h2
      split at hc
      · rename_i he
        simp only [and_true] at hc
        split at hc
        case isFalse => simp at hc
        rename_i hsd
        subst hsd
        simp only [Option.some.injEq] at hc; subst hc
        have hee : e = e' := by rw [h1] at h2; simpa using h2
        subst hee
        have he' : P.underlying e = some (.int .u8) := he
        exact os_cvm hg h hs hy hst (fun c o' n m W' hu hr => by rw [hu]; simp [execOp, ho, convert, run_underlying h1, run_underlying he', hu, hr])
      · simp at hc
    · simp at hc
  | makeInterface t x => 
    simp only [cOp, ho, Option.some.injEq] at hc; subst hc
    simp [stepO, stepOp] at hst
  | panic x =>
    simp only [cOp, ho, Option.some.injEq] at hc; subst hc
    simp [stepO, stepOp] at hst
  | makeFunc fn xs zs =>
    cases fn with
    | func f =>
      simp only [cOp, ho, Option.bind_eq_some_iff, Option.map_eq_some_iff] at hc
      obtain ⟨ys, hys, ws, hws, rfl⟩ := hc
      exact os_mkf hg h hs hys hws hst (by simp [execOp, ho, Instr.makeFunc]; exact ⟨by apply Array.ext'; simp, by apply Array.ext'; simp⟩)
    | _ => simp [cOp, ho] at hc
  | makeSlice t l c =>
    simp only [cOp, ho] at hc
    split at hc
    · rename_i e hu
      simp only [Option.bind_eq_some_iff] at hc
      obtain ⟨sz, hsz, by_, hby, z, hz, d, hd, hc⟩ := hc
      split at hc
      · simp at hc
      · rename_i hcond
        simp only [not_or] at hcond
        obtain ⟨c1, c2, c3⟩ := hcond
        simp only [Option.bind_eq_some_iff, Option.map_eq_some_iff] at hc
        obtain ⟨y, hy, w, hw, rfl⟩ := hc
        exact os_mk hg h hs hu hsz hby hz (by simpa using c3) (by omega) (by omega) hy hw hst (fun u W' hr => by simp [execOp, ho, hr])
    · simp at hc
  | slice t x lo hi mx =>
    simp only [cOp, ho, Option.bind_eq_some_iff] at hc
    obtain ⟨y, hy, lo', hlo, hi', hhi, mx', hmx, hc⟩ := hc
    split at hc
    · rename_i hu
      simp only [Option.some.injEq] at hc; subst hc
      exact os_slc hg h hs (.inl ⟨hu, rfl⟩) hy hlo hhi hmx hst (fun u hr => by simp [execOp, ho, hr])
    · rename_i e hu
      simp only [Option.bind_eq_some_iff] at hc
      obtain ⟨sz, hsz, hc⟩ := hc
      split at hc
      · simp at hc
      · simp only [Option.some.injEq] at hc; subst hc
        exact os_slc hg h hs (.inr ⟨e, hu, hsz, by omega⟩) hy hlo hhi hmx hst (fun u hr => by simp [execOp, ho, hr])
    · simp at hc
  | fieldAddr s x j =>
    simp only [cOp, ho] at hc
    split at hc
    · rename_i fields hu
      simp only [Option.bind_eq_some_iff] at hc
      obtain ⟨fd, hfd, n, hn, hc⟩ := hc
      split at hc
      · simp at hc
      · rename_i h0
        simp only [Option.map_eq_some_iff] at hc
        obtain ⟨y, hy, rfl⟩ := hc
        exact os_fa hg h hs hy hst (fun c o' hu' => by simp [execOp, ho, hu', run_fieldAt' hu hfd hn h0])
    · simp at hc
  | indexAddr t x ix =>
    simp only [cOp, ho, Option.bind_eq_some_iff] at hc
    obtain ⟨y, hy, w, hw, hc⟩ := hc
    split at hc
    · rename_i e hu
      simp only [Option.bind_eq_some_iff] at hc
      obtain ⟨sz, hsz, hc⟩ := hc
      split at hc
      · simp at hc
      · simp only [Option.some.injEq] at hc; subst hc
        exact os_ia hg h hs hu hsz (by omega) hy hw hst (fun u hr => by simp [execOp, ho, hr])
    · rename_i len e hu
      simp only [Option.bind_eq_some_iff] at hc
      obtain ⟨sz, hsz, hc⟩ := hc
      split at hc
      · simp at hc
      · simp only [Option.some.injEq] at hc; subst hc
        exact os_iap hg h hs hy hw hst (fun c o' k n h0 h1 hx hz => by simp [execOp, ho, hx, hz, Instr.indexAt, run_underlying hu, asIntOf, Instr.sureAddr, h0, h1, run_sizeOf hsz, Addr.add_lit])
    · simp at hc
  | index t x ix =>
    simp only [cOp, ho, Option.bind_eq_some_iff] at hc
    obtain ⟨y, hy, w, hw, hc⟩ := hc
    split at hc
    · rename_i hu
      simp only [Option.some.injEq] at hc; subst hc
      exact os_ixs hg h hs hu hy hw hst (fun u hr => by simp [execOp, ho, hr])
    · simp at hc
  | extract x j =>
    simp only [cOp, ho, Option.map_eq_some_iff] at hc
    obtain ⟨y, hy, rfl⟩ := hc
    exact os_ext hg h hs hy hst (fun us u hx hu => by simp [execOp, ho, hx, Instr.extract, hu])
  | call c =>
    cases hb : c.callee with
    | builtin b => exact cOp_call hg h hs ho hb hc hst
    | value f =>
      simp only [cOp, ho, hb, Option.bind_eq_some_iff, Option.map_eq_some_iff] at hc
      obtain ⟨as, has, f', hf, rfl⟩ := hc
      simp [stepO, stepOp] at hst
    | invoke _ _ => simp [cOp, ho, hb] at hc
  | _ => simp [cOp, ho] at hc
end
end Go.Ab
