/- Every operation that is no call does what the machine of values does. -/
import Derived.Test.YtmikgopohkbbfaaS20
namespace Go.Ab
open Go.RowKit (Below)
section
variable {P : Program} {an : An} {fid : FuncId} {G0 : Gh} {W0 : World} {G G' : Gh} {W : World} {S S' : St} {rho : Nat → Nat} {E E' : Env} {a : Act} {nt : Nat} {r : Rs}
abbrev stepO (E : Env) (S : St) (d : Nat) (op : Op) : Option (Rs × Env × St) := stepOp none E S d op fun r E' S' => some (r, E', S')
theorem v_run {s : Sem Value} {w : Value} {W' : World} {t : Sem Next} (ht : t = (do pure (Next.value (← s)))) (h : s.run P W = .ok w W') : t.run P W = .ok (.value w) W' := by
  subst ht; simp [h]
theorem int_rel {v : AV} {n : Int} {u : Value} (hv : VRel G W v u) (h : intOf v = some n) : ∃ k, u = .int k n := by
  cases v <;> simp [intOf] at h
  subst h; cases hv; exact ⟨_, rfl⟩
theorem nat_rel {v : AV} {n : Nat} {u : Value} (hv : VRel G W v u) (h : natOf v = some n) : ∃ k, u = .int k (n : Int) := by
  cases v <;> simp [natOf] at h
  cases hv
  rename_i k m
  exact ⟨k, by rw [← h.2]; congr 1; omega⟩
theorem bind_int (hg : Globs an G0 W0) (h : ARel G0 W0 G W rho E a nt) {x : Operand} {y : O} {n : Int} (hc : cO an x = some y) (hv : (E.op y).bind intOf = some n) : ∃ k, a.eval x = .int k n := by
  obtain ⟨v, h1, h2⟩ := Option.bind_eq_some_iff.1 hv
  exact int_rel (op_rel hg h hc h1) h2
theorem bind_nat (hg : Globs an G0 W0) (h : ARel G0 W0 G W rho E a nt) {x : Operand} {y : O} {n : Nat} (hc : cO an x = some y) (hv : (E.op y).bind natOf = some n) : ∃ k, a.eval x = .int k (n : Int) := by
  obtain ⟨v, h1, h2⟩ := Option.bind_eq_some_iff.1 hv
  exact nat_rel (op_rel hg h hc h1) h2
theorem os_mv (hg : Globs an G0 W0) (h : ARel G0 W0 G W rho E a nt) (hs : SRel G W S) {x : Operand} {y : O} {d : Nat} {s : Sem Next} (hc : cO an x = some y) (hst : stepO E S d (.mv y) = some (r, E', S')) (hrun : s.run P W = .ok (.value (a.eval x)) W) : Done P G0 W0 nt a s W r E' S' := by
  cases y with
  | c v =>
    simp only [stepO, stepOp, Option.some.injEq, Prod.mk.injEq] at hst
    obtain ⟨rfl, rfl, rfl⟩ := hst
    exact done_val h hs hrun (const_op hg h hc)
  | t n =>
    simp only [stepO, stepOp] at hst
    split at hst
    · rename_i v hv
      simp only [Option.some.injEq, Prod.mk.injEq] at hst
      obtain ⟨rfl, rfl, rfl⟩ := hst
      exact done_val h hs hrun (op_rel hg h hc hv)
    · simp only [Option.some.injEq, Prod.mk.injEq] at hst
      obtain ⟨rfl, rfl, rfl⟩ := hst
      exact ⟨_, _, _, _, .inl hrun, trivial, h, hs⟩
theorem os_pick (hg : Globs an G0 W0) (h : ARel G0 W0 G W rho E a nt) (hs : SRel G W S) {x1 x2 x3 : Operand} {y1 y2 y3 : O} {d : Nat} {s : Sem Next} (h1 : cO an x1 = some y1) (h2 : cO an x2 = some y2) (h3 : cO an x3 = some y3) (hst : stepO E S d (.pick y1 y2 y3) = some (r, E', S'))
    (hrun : ∀ b, a.eval x1 = .bool b → s.run P W = .ok (.value (if b then a.eval x2 else a.eval x3)) W) : Done P G0 W0 nt a s W r E' S' := by
  simp only [stepO, stepOp] at hst
  obtain ⟨t, ht, hst⟩ := oE_some hst
  obtain ⟨v, hv, hb⟩ := Option.bind_eq_some_iff.1 ht
  cases v <;> simp [asB] at hb
  rename_i q
  subst hb
  have hr := op_rel hg h h1 hv
  generalize hu : a.eval x1 = u1 at hr hrun
  cases hr
  have hrun := hrun q rfl
  cases q with
  | true =>
    obtain ⟨w, hw, hst⟩ := oE_some hst
    simp only [Option.some.injEq, Prod.mk.injEq] at hst
    obtain ⟨rfl, rfl, rfl⟩ := hst
    exact done_val h hs hrun (op_rel hg h h2 hw)
  | false =>
    obtain ⟨w, hw, hst⟩ := oE_some hst
    simp only [Option.some.injEq, Prod.mk.injEq] at hst
    obtain ⟨rfl, rfl, rfl⟩ := hst
    exact done_val h hs hrun (op_rel hg h h3 hw)
theorem os_new (h : ARel G0 W0 G W rho E a nt) (hs : SRel G W S) {e : TypeId} {z : List AV} {m : Bk} {d : Nat} {s : Sem Next} (hz : cZero P e = some z) (hst : stepO E S d (.new m z) = some (r, E', S'))
    (hrun : ∀ w W', (Instr.alloc e true (.tuple #[])).run P W = .ok w W' → s.run P W = .ok (.value w) W') : Done P G0 W0 nt a s W r E' S' := by
  obtain ⟨i, zv, hi, hzi, hzr, hz1⟩ := zero_rel (P := P) G W hz
  refine fresh_done (m := m) (d := d) h hs hzr hz1 e (hrun _ _ ?_) ?_
  · have : zv.cells.toList.toArray = zv.cells := by simp
    simp [Instr.alloc, zeroValue, typeInfo, hi, hzi, newVar, newRow, this]
  · simp only [stepO, stepOp] at hst
    cases m <;> exact hst
theorem os_box (hg : Globs an G0 W0) (h : ARel G0 W0 G W rho E a nt) (hs : SRel G W S) {e : TypeId} {x : Operand} {y : O} {m : Bk} {n d : Nat} {s : Sem Next} (hc : cO an x = some y) (hst : stepO E S d (.box m n y) = some (r, E', S'))
    (hrun : ∀ w W', (Instr.box e (a.eval x)).run P W = .ok w W' → s.run P W = .ok (.value w) W') : Done P G0 W0 nt a s W r E' S' := by
  simp only [stepO, stepOp] at hst
  obtain ⟨v, hv, hst⟩ := oE_some hst
  split at hst
  · simp at hst
  · rename_i hcond
    simp only [Bool.and_eq_true, decide_eq_true_eq, Bool.not_eq_true'] at hcond
    obtain ⟨hr, h1⟩ := cells_rel (op_rel hg h hc hv) hcond.2
    refine fresh_done (m := m) (d := d) h hs hr h1 e (hrun _ _ ?_) ?_
    · simp [Instr.box, newVar, newRow]
    · cases m <;> exact hst
theorem os_ld (hg : Globs an G0 W0) (h : ARel G0 W0 G W rho E a nt) (hs : SRel G W S) {t : TypeId} {x : Operand} {y : O} {g : Bool} {n d : Nat} {s : Sem Next} (hc : cO an x = some y) (hag : cAgg P t = some g) (hn : cSize P t = some n) (hst : stepO E S d (.ld g n y) = some (r, E', S'))
    (hrun : ∀ w W', (Instr.loadAt t (a.eval x)).run P W = .ok w W' → s.run P W = .ok (.value w) W') : Done P G0 W0 nt a s W r E' S' := by
  simp only [stepO, stepOp] at hst
  obtain ⟨ad, had, hst⟩ := oE_some hst
  obtain ⟨cs, hcs, hst⟩ := oE_some hst
  obtain ⟨v, hv, hst⟩ := oE_some hst
  simp only [Option.some.injEq, Prod.mk.injEq] at hst
  obtain ⟨rfl, rfl, rfl⟩ := hst
  obtain ⟨c, o, us, hu, hvr, hcl, h1, hl⟩ := ldC_rel h hs (ad_rel hg h hc had) hcs
  rw [hu] at hrun
  rcases val_rel hvr h1 hv with ⟨rfl, hr⟩ | ⟨rfl, hn1, u, rfl, hr⟩
  · exact done_val h hs (hrun _ _ (run_loadAt' hag hn hcl hl (by simp))) (by simpa using hr)
  · exact done_val h hs (hrun _ _ (run_loadAt' hag hn hcl hl (by simp))) (by simpa using hr)
theorem os_st (hg : Globs an G0 W0) (h : ARel G0 W0 G W rho E a nt) (hs : SRel G W S) {t : TypeId} {x z : Operand} {y w : O} {n d : Nat} {s : Sem Next} (hc : cO an x = some y) (hc2 : cO an z = some w) (hn : cSize P t = some n) (hst : stepO E S d (.st n y w) = some (r, E', S'))
    (hrun : ∀ W', (Instr.storeAt t (a.eval x) (a.eval z)).run P W = .ok () W' → s.run P W = .ok .skip W') : Done P G0 W0 nt a s W r E' S' := by
  simp only [stepO, stepOp] at hst
  obtain ⟨ad, had, hst⟩ := oE_some hst
  obtain ⟨v, hv, hst⟩ := oE_some hst
  split at hst
  · simp at hst
  · rename_i htu
    obtain ⟨⟨E1, S1⟩, hq, hst⟩ := oE_some hst
    simp only [Option.some.injEq, Prod.mk.injEq] at hst
    obtain ⟨rfl, rfl, rfl⟩ := hst
    exact st_done h hs hn (ad_rel hg h hc had) (op_rel hg h hc2 hv) htu hq hrun
theorem os_nchk (hg : Globs an G0 W0) (h : ARel G0 W0 G W rho E a nt) (hs : SRel G W S) {x : Operand} {y : O} {d : Nat} {s : Sem Next} (hc : cO an x = some y) (hst : stepO E S d (.nchk y) = some (r, E', S'))
    (hrun : (∃ p, a.eval x = .pointer (some p)) ∨ (∃ f p q, a.eval x = .func (.func f) p q) → s.run P W = .ok (.value (a.eval x)) W) : Done P G0 W0 nt a s W r E' S' := by
  simp only [stepO, stepOp] at hst
  obtain ⟨ad, had, hst⟩ := oE_some hst
  obtain ⟨r', hr, hst⟩ := oE_some hst
  simp only [Option.some.injEq, Prod.mk.injEq] at hst
  obtain ⟨rfl, rfl, rfl⟩ := hst
  exact nchk_done h hs (ad_rel hg h hc had) hr hrun
theorem os_bin (hg : Globs an G0 W0) (h : ARel G0 W0 G W rho E a nt) (hs : SRel G W S) {t : TypeId} {op : BinOp} {x z : Operand} {y w : O} {d : Nat} {s : Sem Next} (hc : cO an x = some y) (hc2 : cO an z = some w) (hst : stepO E S d (.bin op y w) = some (r, E', S'))
    (hrun : ∀ u, (eqGuard op t x z (a.eval x) (a.eval z)).run P W = .ok () W → (binOp op t (a.eval x) (a.eval z)).run P W = .ok u W → s.run P W = .ok (.value u) W) : Done P G0 W0 nt a s W r E' S' := by
  simp only [stepO, stepOp] at hst
  obtain ⟨v, hv, hst⟩ := oE_some hst
  obtain ⟨v', hv', hst⟩ := oE_some hst
  obtain ⟨z', hz, hst⟩ := oE_some hst
  simp only [Option.some.injEq, Prod.mk.injEq] at hst
  obtain ⟨rfl, rfl, rfl⟩ := hst
  obtain ⟨u, k1, k2, k3⟩ := binV_rel (P := P) t (op_rel hg h hc hv) (op_rel hg h hc2 hv') hz
  exact done_val h hs (hrun u (k3 _ _) k1) k2
theorem os_eqs (hg : Globs an G0 W0) (h : ARel G0 W0 G W rho E a nt) (hs : SRel G W S) {t : TypeId} {neg : Bool} {c : Ec} {x z : Operand} {y w : O} {d : Nat} {s : Sem Next} (hec : EcOk P t c) (hc : cO an x = some y) (hc2 : cO an z = some w) (hst : stepO E S d (.eqs neg c y w) = some (r, E', S'))
    (hrun : ∀ u, (eqGuard (if neg then .neq else .eql) t x z (a.eval x) (a.eval z)).run P W = .ok () W → (binOp (if neg then .neq else .eql) t (a.eval x) (a.eval z)).run P W = .ok u W → s.run P W = .ok (.value u) W) : Done P G0 W0 nt a s W r E' S' := by
  simp only [stepO, stepOp] at hst
  obtain ⟨v, hv, hst⟩ := oE_some hst
  obtain ⟨v', hv', hst⟩ := oE_some hst
  obtain ⟨b, hb, hst⟩ := oE_some hst
  simp only [Option.some.injEq, Prod.mk.injEq] at hst
  obtain ⟨rfl, rfl, rfl⟩ := hst
  obtain ⟨k1, k2⟩ := eqs_rel hec (op_rel hg h hc hv) (op_rel hg h hc2 hv') hb neg x z
  refine done_val h hs (hrun _ k1 k2) ?_
  cases neg <;> exact .b _
theorem os_fa (hg : Globs an G0 W0) (h : ARel G0 W0 G W rho E a nt) (hs : SRel G W S) {x : Operand} {y : O} {off d : Nat} {s : Sem Next} (hc : cO an x = some y) (hst : stepO E S d (.fa off y) = some (r, E', S'))
    (hrun : ∀ c o, a.eval x = .pointer (some ⟨c, o, none⟩) → s.run P W = .ok (.value (.pointer (some ⟨c, o + off, none⟩))) W) : Done P G0 W0 nt a s W r E' S' := by
  simp only [stepO, stepOp] at hst
  obtain ⟨ad, had, hst⟩ := oE_some hst
  obtain ⟨r', hr, hst⟩ := oE_some hst
  simp only [Option.some.injEq, Prod.mk.injEq] at hst
  obtain ⟨rfl, rfl, rfl⟩ := hst
  exact fa_done h hs (ad_rel hg h hc had) hr hrun
theorem os_iap (hg : Globs an G0 W0) (h : ARel G0 W0 G W rho E a nt) (hs : SRel G W S) {x z : Operand} {y w : O} {sz len d : Nat} {s : Sem Next} (hc : cO an x = some y) (hc2 : cO an z = some w) (hst : stepO E S d (.iap sz len y w) = some (r, E', S'))
    (hrun : ∀ c o k n, 0 ≤ n → n < (len : Int) → a.eval x = .pointer (some ⟨c, o, none⟩) → a.eval z = .int k n → s.run P W = .ok (.value (.pointer (some ⟨c, o + n.toNat * sz, none⟩))) W) : Done P G0 W0 nt a s W r E' S' := by
  simp only [stepO, stepOp] at hst
  obtain ⟨ad, had, hst⟩ := oE_some hst
  obtain ⟨n, hn, hst⟩ := oE_some hst
  obtain ⟨k, hk⟩ := bind_int hg h hc2 hn
  split at hst
  · rename_i hcond
    simp only [decide_eq_true_eq] at hcond
    obtain ⟨r', hr, hst⟩ := oE_some hst
    simp only [Option.some.injEq, Prod.mk.injEq] at hst
    obtain ⟨rfl, rfl, rfl⟩ := hst
    exact fa_done h hs (ad_rel hg h hc had) hr (fun c o hu => hrun c o k n hcond.1 hcond.2 hu hk)
  · simp at hst
end
end Go.Ab
