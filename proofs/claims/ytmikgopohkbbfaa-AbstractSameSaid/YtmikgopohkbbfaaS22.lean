/- Every operation that is no call does what the machine of values does: the rest, and all together. -/
import Derived.Test.YtmikgopohkbbfaaS21
namespace Go.Ab
open Go.RowKit (Below)
section
variable {P : Program} {an : An} {fid : FuncId} {G0 : Gh} {W0 : World} {G G' : Gh} {W : World} {S S' : St} {rho : Nat → Nat} {E E' : Env} {a : Act} {nt : Nat} {r : Rs}
/-- An operation that tells a value of some. -/
theorem os_val (h : ARel G0 W0 G W rho E a nt) (hs : SRel G W S) {s : Sem Next} {v : AV} {u : Value} (hst : some (Rs.val v, E, S) = some (r, E', S')) (hrun : s.run P W = .ok (.value u) W) (hv : VRel G W v u) : Done P G0 W0 nt a s W r E' S' := by
  simp only [Option.some.injEq, Prod.mk.injEq] at hst
  obtain ⟨rfl, rfl, rfl⟩ := hst
  exact done_val h hs hrun hv
theorem os_un (hg : Globs an G0 W0) (h : ARel G0 W0 G W rho E a nt) (hs : SRel G W S) {op : UnOp} {x : Operand} {y : O} {d : Nat} {s : Sem Next} (hc : cO an x = some y) (hst : stepO E S d (.un op y) = some (r, E', S'))
    (hrun : ∀ u, (Op.unary op (a.eval x)).run P W = .ok u W → s.run P W = .ok (.value u) W) : Done P G0 W0 nt a s W r E' S' := by
  simp only [stepO, stepOp] at hst
  obtain ⟨v, hv, hst⟩ := oE_some hst
  obtain ⟨v', hv', hst⟩ := oE_some hst
  obtain ⟨u, k1, k2⟩ := un_rel (P := P) (op_rel hg h hc hv) hv'
  exact os_val h hs hst (hrun u k1) k2
theorem os_cvi (hg : Globs an G0 W0) (h : ARel G0 W0 G W rho E a nt) (hs : SRel G W S) {kk : IntKind} {x : Operand} {y : O} {d : Nat} {s : Sem Next} (hc : cO an x = some y) (hst : stepO E S d (.cvi kk y) = some (r, E', S'))
    (hrun : ∀ k n, a.eval x = .int k n → s.run P W = .ok (.value (.int kk (kk.wrap n))) W) : Done P G0 W0 nt a s W r E' S' := by
  simp only [stepO, stepOp] at hst
  obtain ⟨n, hn, hst⟩ := oE_some hst
  obtain ⟨k, hk⟩ := bind_int hg h hc hn
  exact os_val h hs hst (hrun k n hk) (.i _ _)
theorem os_cvs (hg : Globs an G0 W0) (h : ARel G0 W0 G W rho E a nt) (hs : SRel G W S) {src dst e : TypeId} {x : Operand} {y : O} {d : Nat} {s : Sem Next} (h1 : P.underlying src = some (.slice e)) (h2 : P.underlying e = some (.int .u8)) (h3 : P.underlying dst = some .string) (hc : cO an x = some y) (hst : stepO E S d (.cvs y) = some (r, E', S'))
    (hrun : ∀ u, (convert src dst (a.eval x)).run P W = .ok u W → s.run P W = .ok (.value u) W) : Done P G0 W0 nt a s W r E' S' := by
  simp only [stepO, stepOp] at hst
  obtain ⟨v, hv, hst⟩ := oE_some hst
  have hr := op_rel hg h hc hv
  split at hst
  · simp at hst
  · rename_i hns
    obtain ⟨xs, hxs, hst⟩ := oE_some hst
    obtain ⟨l, hl, hst⟩ := oE_some hst
    exact os_val h hs hst (hrun _ (cvs_rel hs h1 h2 h3 hr (fun b hb => hns b hb) hxs hl)) (.s l)
theorem os_cvb (hg : Globs an G0 W0) (h : ARel G0 W0 G W rho E a nt) (hs : SRel G W S) {src dst e : TypeId} {x : Operand} {y : O} {d : Nat} {s : Sem Next} (h1 : P.underlying src = some .string) (h2 : P.underlying dst = some (.slice e)) (h3 : P.underlying e = some (.int .u8)) (hc : cO an x = some y) (hst : stepO E S d (.cvb y) = some (r, E', S'))
    (hrun : ∀ u W', (convert src dst (a.eval x)).run P W = .ok u W' → s.run P W = .ok (.value u) W') : Done P G0 W0 nt a s W r E' S' := by
  simp only [stepO, stepOp] at hst
  obtain ⟨b, hb, hst⟩ := oE_some hst
  obtain ⟨v, hv, hb⟩ := Option.bind_eq_some_iff.1 hb
  cases v <;> simp [asS] at hb
  rename_i l
  subst hb
  have hr := op_rel hg h hc hv
  generalize a.eval x = u at hr hrun
  cases hr
  split at hst
  · simp only [Option.some.injEq, Prod.mk.injEq] at hst
    obtain ⟨rfl, rfl, rfl⟩ := hst
    exact cvb_done h hs h1 h2 h3 hrun
  · simp at hst
theorem os_cvm (hg : Globs an G0 W0) (h : ARel G0 W0 G W rho E a nt) (hs : SRel G W S) {x : Operand} {y : O} {d : Nat} {s : Sem Next} (hc : cO an x = some y) (hst : stepO E S d (.cvm y) = some (r, E', S'))
    (hrun : ∀ c o n m W', a.eval x = .slice (some ⟨c, o, none⟩) n m → (markStringish ⟨c, o, none⟩).run P W = .ok () W' → s.run P W = .ok (.value (a.eval x)) W') : Done P G0 W0 nt a s W r E' S' := by
  simp only [stepO, stepOp] at hst
  obtain ⟨v, hv, hst⟩ := oE_some hst
  have hr := op_rel hg h hc hv
  split at hst
  · simp only [Option.some.injEq, Prod.mk.injEq] at hst
    obtain ⟨rfl, rfl, rfl⟩ := hst
    exact mark_done h hs hr hrun
  · simp at hst
theorem os_ia (hg : Globs an G0 W0) (h : ARel G0 W0 G W rho E a nt) (hs : SRel G W S) {t e : TypeId} {sz : Nat} {x z : Operand} {y w : O} {d : Nat} {s : Sem Next} (h0 : P.underlying t = some (.slice e)) (hn : cSize P e = some sz) (hsz : 0 < sz) (hc : cO an x = some y) (hc2 : cO an z = some w) (hst : stepO E S d (.ia sz y w) = some (r, E', S'))
    (hrun : ∀ u, (Instr.indexAt t (a.eval x) (a.eval z)).run P W = .ok u W → s.run P W = .ok (.value u) W) : Done P G0 W0 nt a s W r E' S' := by
  simp only [stepO, stepOp] at hst
  obtain ⟨v, hv, hst⟩ := oE_some hst
  obtain ⟨n, hn', hst⟩ := oE_some hst
  obtain ⟨v', hv', hst⟩ := oE_some hst
  obtain ⟨k, hk⟩ := bind_int hg h hc2 hn'
  obtain ⟨u, k1, k2⟩ := ia_rel (P := P) (k := k) hs h0 hn (op_rel hg h hc hv) hv' hsz
  rw [hk] at hrun
  exact os_val h hs hst (hrun u k1) k2
theorem os_ixs (hg : Globs an G0 W0) (h : ARel G0 W0 G W rho E a nt) (hs : SRel G W S) {t : TypeId} {x z : Operand} {y w : O} {d : Nat} {s : Sem Next} (h0 : P.underlying t = some .string) (hc : cO an x = some y) (hc2 : cO an z = some w) (hst : stepO E S d (.ixs y w) = some (r, E', S'))
    (hrun : ∀ u, (Instr.index t (a.eval x) (a.eval z)).run P W = .ok u W → s.run P W = .ok (.value u) W) : Done P G0 W0 nt a s W r E' S' := by
  simp only [stepO, stepOp] at hst
  obtain ⟨v, hv, hst⟩ := oE_some hst
  obtain ⟨n, hn', hst⟩ := oE_some hst
  obtain ⟨v', hv', hst⟩ := oE_some hst
  obtain ⟨k, hk⟩ := bind_int hg h hc2 hn'
  obtain ⟨u, k1, k2⟩ := ixs_rel (P := P) (k := k) h0 (op_rel hg h hc hv) hv'
  rw [hk] at hrun
  exact os_val h hs hst (hrun u k1) k2
theorem os_slc (hg : Globs an G0 W0) (h : ARel G0 W0 G W rho E a nt) (hs : SRel G W S) {t : TypeId} {sz : Nat} {x : Operand} {y : O} {lo hi mx : Option Operand} {lo' hi' mx' : Option O} {d : Nat} {s : Sem Next} (ht : (P.underlying t = some .string ∧ sz = 0) ∨ ∃ e, P.underlying t = some (.slice e) ∧ cSize P e = some sz ∧ 0 < sz)
    (hc : cO an x = some y) (h1 : cOptO an lo = some lo') (h2 : cOptO an hi = some hi') (h3 : cOptO an mx = some mx') (hst : stepO E S d (.slc sz y lo' hi' mx') = some (r, E', S'))
    (hrun : ∀ u, (Instr.sliceAt t (a.eval x) (lo.map a.eval) (hi.map a.eval) (mx.map a.eval)).run P W = .ok u W → s.run P W = .ok (.value u) W) : Done P G0 W0 nt a s W r E' S' := by
  simp only [stepO, stepOp] at hst
  obtain ⟨v, hv, hst⟩ := oE_some hst
  obtain ⟨b1, hb1, hst⟩ := oE_some hst
  obtain ⟨b2, hb2, hst⟩ := oE_some hst
  obtain ⟨b3, hb3, hst⟩ := oE_some hst
  have q1 : (lo.map a.eval = none ∧ b1.getD 0 = 0) ∨ ∃ k, lo.map a.eval = some (.int k (b1.getD 0 : Int)) := by
    rcases bnd_rel hg h h1 hb1 with ⟨rfl, rfl⟩ | ⟨z, n, k, rfl, rfl, e⟩
    · exact .inl ⟨rfl, rfl⟩
    · exact .inr ⟨k, by simp [e]⟩
  have q2 : (hi.map a.eval = none ∧ b2 = none) ∨ ∃ k, ∃ n : Nat, hi.map a.eval = some (.int k (n : Int)) ∧ b2 = some n := by
    rcases bnd_rel hg h h2 hb2 with ⟨rfl, rfl⟩ | ⟨z, n, k, rfl, rfl, e⟩
    · exact .inl ⟨rfl, rfl⟩
    · exact .inr ⟨k, n, by simp [e], rfl⟩
  have q3 : (mx.map a.eval = none ∧ b3 = none) ∨ ∃ k, ∃ n : Nat, mx.map a.eval = some (.int k (n : Int)) ∧ b3 = some n := by
    rcases bnd_rel hg h h3 hb3 with ⟨rfl, rfl⟩ | ⟨z, n, k, rfl, rfl, e⟩
    · exact .inl ⟨rfl, rfl⟩
    · exact .inr ⟨k, n, by simp [e], rfl⟩
  split at hst
  · simp at hst
  · rename_i hnn
    obtain ⟨v', hv', hst⟩ := oE_some hst
    obtain ⟨u, k1, k2⟩ := slc_rel (P := P) hs ht q1 q2 q3 (by
      rintro ⟨rfl, hm⟩
      cases b3 with
      | none => simp at hm
      | some m => exact hnn m rfl rfl) (op_rel hg h hc hv) hv'
    exact os_val h hs hst (hrun u k1) k2
theorem os_mk (hg : Globs an G0 W0) (h : ARel G0 W0 G W rho E a nt) (hs : SRel G W S) {t e : TypeId} {sz by_ : Nat} {zz : AV} {x z : Operand} {y w : O} {arr : Bool} {d : Nat} {s : Sem Next} (h0 : P.underlying t = some (.slice e)) (hn : cSize P e = some sz) (hb : cBytes P e = some by_) (hz : cZeroV P e = some zz) (hzo : cZeroOk P e = true) (hsz : 0 < sz) (hb0 : 0 < by_)
    (hc : cO an x = some y) (hc2 : cO an z = some w) (hst : stepO E S d (.mk arr sz by_ zz y w) = some (r, E', S'))
    (hrun : ∀ u W', (Instr.makeSlice t (a.eval x) (a.eval z)).run P W = .ok u W' → s.run P W = .ok (.value u) W') : Done P G0 W0 nt a s W r E' S' := by
  simp only [stepO, stepOp] at hst
  obtain ⟨l, hl, hst⟩ := oE_some hst
  obtain ⟨c, hc', hst⟩ := oE_some hst
  obtain ⟨k1, hk1⟩ := bind_int hg h hc hl
  obtain ⟨k2, hk2⟩ := bind_int hg h hc2 hc'
  rw [hk1, hk2] at hrun
  split at hst
  · simp at hst
  · rename_i hcond
    simp only [Bool.and_eq_true, decide_eq_true_eq] at hcond
    obtain ⟨hlc, hroom⟩ := hcond
    refine mk_done h hs h0 hn hb hz hzo hsz (arr := arr) hlc hroom ?_ hrun ?_
    · have hr0 : c.toNat * by_ ≤ 2 ^ 46 := by simpa [room] using hroom
      have : c.toNat ≤ 2 ^ 46 := Nat.le_trans (Nat.le_mul_of_pos_right _ hb0) hr0
      omega
    · cases arr <;> exact hst
theorem os_ext (hg : Globs an G0 W0) (h : ARel G0 W0 G W rho E a nt) (hs : SRel G W S) {x : Operand} {y : O} {j d : Nat} {s : Sem Next} (hc : cO an x = some y) (hst : stepO E S d (.ext j y) = some (r, E', S'))
    (hrun : ∀ us u, a.eval x = .tuple us → us[j]? = some u → s.run P W = .ok (.value u) W) : Done P G0 W0 nt a s W r E' S' := by
  simp only [stepO, stepOp] at hst
  obtain ⟨v, hv, hst⟩ := oE_some hst
  have hr := op_rel hg h hc hv
  split at hst
  · obtain ⟨v', hv', hst⟩ := oE_some hst
    generalize a.eval x = u at hr hrun
    cases hr with
    | tu cs us hvs =>
      obtain ⟨u, hu, hru⟩ := VRels.get hvs hv'
      exact os_val h hs hst (hrun _ u rfl (by simpa using hu)) hru
  · simp at hst
theorem os_mkf (hg : Globs an G0 W0) (h : ARel G0 W0 G W rho E a nt) (hs : SRel G W S) {f : FuncId} {xs zs : List Operand} {ys ws : List O} {d : Nat} {s : Sem Next} (hc : cOs an xs = some ys) (hc2 : cOs an zs = some ws) (hst : stepO E S d (.mkf f ys ws) = some (r, E', S'))
    (hrun : s.run P W = .ok (.value (.func (.func f) (xs.map a.eval).toArray (zs.map a.eval).toArray)) W) : Done P G0 W0 nt a s W r E' S' := by
  simp only [stepO, stepOp] at hst
  obtain ⟨v, hv, hst⟩ := oE_some hst
  obtain ⟨v', hv', hst⟩ := oE_some hst
  exact os_val h hs hst hrun (.fn _ _ _ _ _ (ops_rel hg h hc hv) (ops_rel hg h hc2 hv'))
theorem os_mx (hg : Globs an G0 W0) (h : ARel G0 W0 G W rho E a nt) (hs : SRel G W S) {neg : Bool} {xs : List Operand} {ys : List O} {d : Nat} {s : Sem Next} (hc : cOs an xs = some ys) (hst : stepO E S d (.mx neg ys) = some (r, E', S'))
    (hrun : ∀ x us u, xs.map a.eval = x :: us → (us.foldlM (if neg then Builtin.min2 else Builtin.max2) x).run P W = .ok u W → s.run P W = .ok (.value u) W) : Done P G0 W0 nt a s W r E' S' := by
  simp only [stepO, stepOp] at hst
  obtain ⟨vs, hvs, hst⟩ := oE_some hst
  have hr := ops_rel hg h hc hvs
  split at hst
  · obtain ⟨z, hz, hst⟩ := oE_some hst
    generalize xs.map a.eval = us0 at hr hrun
    cases hr with
    | cons _ u _ us h1 h2 =>
      obtain ⟨w, k1, k2⟩ := mxV_rel (P := P) h1 h2 hz
      exact os_val h hs hst (hrun _ _ _ rfl k1) k2
  · simp at hst
end
end Go.Ab
