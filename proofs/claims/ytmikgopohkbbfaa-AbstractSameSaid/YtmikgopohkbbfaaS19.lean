/- Appended zeros; copies; clears. -/
import Derived.Test.YtmikgopohkbbfaaS18
namespace Go.Ab
open Go.RowKit (Below)
section
variable {P : Program} {an : An} {fid : FuncId} {G0 : Gh} {W0 : World} {G G' : Gh} {W : World} {S S' : St} {rho : Nat → Nat} {E E' : Env} {a : Act} {nt : Nat} {r : Rs}
theorem apz_done (h : ARel G0 W0 G W rho E a nt) (hs : SRel G W S) {t0 t1 ty e : TypeId} {sz by_ : Nat} {kk : IntKind} (h0 : P.underlying t0 = some (.slice e)) (h1 : P.underlying t1 = some (.int kk))
    (hn : cSize P e = some sz) (hb : cBytes P e = some by_) {zz : AV} (hzv : cZeroV P e = some zz) (hz : cZeroOk P e = true) (hsz : 0 < sz) (hb0 : 0 < by_) {x z : AV} {n : Nat} {k : IntKind} {u : Value} (hx : VRel G W x u) {arr : Bool} (happ : apzV S arr sz by_ zz x n = some (z, S'))
    {s : Sem Next} (hrun : ∀ w W', (Builtin.append_ #[t0, t1] ty #[u, .int k (n : Int)]).run P W = .ok w W' → s.run P W = .ok (.value w) W') : Done P G0 W0 nt a s W (.val z) E S' := by
  obtain ⟨i, zv, hi, hsi, hzi, hzr, hzl, hzs, hz1⟩ := zeroV_rel (P := P) G W hzv hz hn
  have hbi : i.bytes = by_ := by
    unfold cBytes at hb; rw [hi] at hb; simpa using hb
  unfold apzV at happ
  split at happ
  · rename_i s0 ys
    split at happ
    · rename_i hn0
      subst hn0
      simp only [Option.some.injEq, Prod.mk.injEq] at happ
      obtain ⟨rfl, rfl⟩ := happ
      cases hx with
      | nl =>
        refine done_val h hs (hrun _ _ ?_) (.nl _)
        have hw : IntKind.i64.wrap 0 = 0 := by rw [IntKind.wrap_i64]; omega
        simp [Builtin.append_, run_underlying h0, run_underlying h1, run_sizeOf hn, asInt, asIntOf, hw, typeInfo, hi]
      | sl _ _ _ _ _ _ _ _ _ _ _ _ _ hnl => exact absurd rfl hnl
    · rename_i hn0
      split at happ
      · rename_i hc
        simp only [Bool.and_eq_true] at hc
        obtain ⟨hroom, hel⟩ := hc
        have happ' := Option.some.inj happ
        obtain rfl : (grown S arr sz (List.replicate n zz) .no).1 = z := by rw [happ']
        obtain rfl : (grown S arr sz (List.replicate n zz) .no).2 = S' := by rw [happ']
        cases hx with
        | sl _ _ _ _ _ _ _ _ _ _ _ _ _ hnl => exact absurd rfl hnl
        | nl =>
          have hr0 : n * by_ ≤ 2 ^ 46 := by simpa [room] using hroom
          have hnn : n ≤ 2 ^ 46 := Nat.le_trans (Nat.le_mul_of_pos_right _ hb0) hr0
          have hw : IntKind.i64.wrap (n : Int) = n := by rw [IntKind.wrap_i64]; omega
          have hdr : ARel G0 W0 G W.drew rho E a nt := h.mono (ext_drew G W)
          have hge := grownCap_ge W n 0 e
          have hv := made_rel (G := G) (W := W.drew) hsz hzs (VRels.mono (ext_drew G W).toVExt hzr) n
          have h1' := made_one hsz hzs hz1 (n * sz)
          have hlen : ((List.range (n * sz)).map (fun i => zv.cells[i % zv.cells.size]!)).length = n * sz := by simp
          obtain ⟨G', k1, k2, k3⟩ := alloc_grown hdr (srel_drew hs) (zs := List.replicate n zz) (rest := (Builtin.zeroCells zv.cells (grownCap W n 0 e - n)).toList) hsz (replicate_el hzl n) hv h1' e (grownCap W n 0 e)
            (by
              have := size_zeroCells zv.cells (grownCap W n 0 e - n)
              rw [List.length_append, hlen, Array.length_toList, this, hzs, ← Nat.add_mul]; congr 1; omega) (by simpa using hge) arr .no S rfl rfl rfl (fun _ _ h => h) (fun _ _ => rfl)
          refine ⟨.slice (some ⟨W.heap.size, 0, none⟩) n (grownCap W n 0 e), _, G', rho, .inl (hrun _ _ ?_), ?_, k1, k2⟩
          · have hl0 : ¬ ((n : Int) < 0) := by omega
            have hbb : (n : Int) * (i.bytes : Int) = ((n * by_ : Nat) : Int) := by rw [hbi, Int.natCast_mul]
            have hl1 : ¬ (281474976710656 < (n : Int) * (i.bytes : Int)) := by rw [hbb]; omega
            have hn1 : ¬ (n = 0) := hn0
            have hsz0 : ¬ (n * sz = 0) := by
              intro hq; rcases Nat.mul_eq_zero.1 hq with hq | hq <;> omega
            have h63 : ¬ (9223372036854775807 < (n : Int)) := by omega
            have h48 : ¬ (281474976710656 < Builtin.nextslicecap n 0 * i.bytes) := by
              have := growslice_fits (need := n) (bytes := i.bytes) (show (0 : Nat) < n by omega) (by rw [hbi]; omega)
              omega
            simp [Builtin.append_, run_underlying h0, run_underlying h1, run_sizeOf hn, asInt, asIntOf, hw, typeInfo, hi, hl0, hl1, hn1, hsz0, h63, h48, zeroValue, hzi, Builtin.firstCells, newRow, Question.forced, grownCap]
            congr 2
            apply Array.ext'
            simp [Builtin.zeroCells, hzs]
          · rw [List.length_replicate] at k3
            exact k3
      · simp at happ
  · simp at happ
theorem setCells_nil (W : World) (c o : Nat) : W.setCells c o [] = W := rfl
/-- A copy. -/
theorem cpy_done (h : ARel G0 W0 G W rho E a nt) (hs : SRel G W S) {t0 t1 ty e : TypeId} {sz : Nat} (h0 : P.underlying t0 = some (.slice e)) (hn : cSize P e = some sz) (hsz : 0 < sz) {x y z : AV} {u v : Value} {ys : List AV}
    (hx : VRel G W x u) (hy : VRel G W y v) (hc : cont S y = some ys) (hcp : cpyV S sz x ys = some (z, S'))
    {s : Sem Next} (hrun : ∀ w W', (Builtin.copy_ #[t0, t1] ty #[u, v]).run P W = .ok w W' → s.run P W = .ok (.value w) W') : Done P G0 W0 nt a s W (.val z) E S' := by
  unfold cpyV at hcp
  split at hcp
  · simp at hcp
  rename_i hall
  have hall' : ys.all (elemV sz) = true := by simpa using hall
  obtain ⟨news, hyr, hyv, hy1⟩ := cont_rel (P := P) hs hy hc hsz hall'
  have hye : ∀ x ∈ ys, x.cells.length = sz := fun x hx => by simpa [elemV] using List.all_eq_true.1 hall' x hx
  have hnl : news.length = ys.length * sz := by rw [VRels.length hyv, flat_len hye]
  split at hcp
  · rename_i b off len cap t
    split at hcp
    · rename_i sz' all harr
      split at hcp
      · rename_i hcond
        obtain ⟨rfl, hin⟩ := hcond
        simp only [Option.some.injEq, Prod.mk.injEq] at hcp
        obtain ⟨rfl, rfl⟩ := hcp
        obtain ⟨m, hm⟩ : ∃ m, m = min ys.length len := ⟨_, rfl⟩
        rw [← hm] at hin ⊢
        have hml : (ys.take m).length = m := by simp; omega
        have hvt : VRels G W (flat (ys.take m)) (news.take (m * sz')) := by rw [← flat_take hye]; exact VRels.take _ hyv
        cases hx with
        | ar _ _ _ _ cap' _ ad hb hp h1 had hlen hcap hin' hnl' hex hid =>
          obtain ⟨q1, q2, q3, q4⟩ := over_ar h hs (off := off) hp harr hvt (fun u hu => hy1 u (List.mem_of_mem_take hu)) (fun x hx => hye x (List.mem_of_mem_take hx)) (by rw [hml]; exact hin)
          rw [hml] at q4
          by_cases hc0 : 0 < cap'
          · have hade := had.2 hc0
            subst hade
            rw [q1] at hrun
            have hr := run_copy' (P := P) (ty := ty) (t1 := t1) (dCap := cap') (c := (G.al b).1) (o := (G.al b).2 + off * sz') (dLen := len) h0 hn hyr (n := m) hm hy1 q2
            exact ⟨_, _, _, _, .inl (hrun _ _ hr), .i _ _, q3, q4⟩
          · have hm0 : m = 0 := by omega
            have hr := run_copy_zero (P := P) (ty := ty) (t1 := t1) (dCap := cap') (dLen := len) (base := some ad) h0 hn hyr (by show min ys.length len = 0; omega)
            subst hm0
            simp only [Nat.zero_mul, List.take_zero, setCells_nil] at q3 q4
            exact ⟨_, _, _, _, .inl (hrun _ _ hr), .i _ _, q3, by simpa using q4⟩
      · simp at hcp
    · simp at hcp
  · rename_i s0 xs t
    split at hcp
    · rename_i h0'
      simp only [Option.some.injEq, Prod.mk.injEq] at hcp
      obtain ⟨rfl, rfl⟩ := hcp
      have hu : ∃ base c, u = .slice base xs.length c := by
        cases hx with
        | nl => exact ⟨_, _, rfl⟩
        | sl => exact ⟨_, _, rfl⟩
        | se => exact ⟨_, _, rfl⟩
      obtain ⟨base, c, rfl⟩ := hu
      have hr := run_copy_zero (P := P) (ty := ty) (t1 := t1) (dCap := c) (dLen := xs.length) (base := base) h0 hn hyr (by show min ys.length xs.length = 0; omega)
      exact done_val h hs (hrun _ _ hr) (.i _ _)
    · simp at hcp
  · simp at hcp
/-- A clear. -/
theorem clr_done (h : ARel G0 W0 G W rho E a nt) (hs : SRel G W S) {t0 ty e : TypeId} {sz : Nat} (h0 : P.underlying t0 = some (.slice e)) (hn : cSize P e = some sz) (hsz : 0 < sz) {zz : AV} (hzv : cZeroV P e = some zz) (hz : cZeroOk P e = true) {x : AV} {u : Value}
    (hx : VRel G W x u) (hcl : clrV S zz x = some S')
    {s : Sem Next} (hrun : ∀ w W', (Builtin.clear_ #[t0] ty #[u]).run P W = .ok w W' → s.run P W = .ok (.value w) W') : Done P G0 W0 nt a s W .no E S' := by
  obtain ⟨i, zv, hi, hsi, hzi, hzr, hzl, hzs, hz1⟩ := zeroV_rel (P := P) G W hzv hz hn
  unfold clrV at hcl
  split at hcl
  · rename_i s0 xs t
    split at hcl
    · rename_i h0'
      simp only [Option.some.injEq] at hcl
      subst hcl
      refine ⟨.tuple #[], W, G, rho, .inl (hrun _ _ ?_), trivial, h, hs⟩
      cases hx with
      | nl => simp [Builtin.clear_, run_underlying h0]
      | sl => simp [Builtin.clear_, run_underlying h0, h0']
      | se => simp [Builtin.clear_, run_underlying h0]
    · simp at hcl
  · rename_i b off len cap t
    split at hcl
    · rename_i sz' all harr
      split at hcl
      · rename_i hcond
        obtain ⟨hin, hel⟩ := hcond
        simp only [Option.some.injEq] at hcl
        subst hcl
        cases hx with
        | ar _ _ _ _ cap' _ ad hb hp h1 had hlen hcap hin' hnl' hex hid =>
          have hel' : zz.cells.length = sz' := by simpa [elemV] using hel
          obtain rfl : sz' = sz := by rw [← hel', hzl]
          have hv := made_rel (G := G) (W := W) hsz hzs hzr len
          have h1' := made_one hsz hzs hz1 (len * sz')
          obtain ⟨q1, q2, q3, q4⟩ := over_ar h hs (off := off) hp harr hv h1' (replicate_el hzl len) (by simpa using hin)
          rw [List.length_replicate] at q4
          refine ⟨.tuple #[], _, _, _, .inl (hrun _ _ ?_), trivial, q3, q4⟩
          by_cases hc0 : len = 0
          · subst hc0
            simp [Builtin.clear_, run_underlying h0, setCells_nil]
          · have hade := had.2 (by omega)
            subst hade
            rw [q1]
            have hst := run_storeCells_cells (P := P) (G.al b).1 ((G.al b).2 + off * sz') _ 0 W (by simpa [at_] using fun j hj => (q2 j hj).1) (by simpa [frz_] using fun j hj => (q2 j hj).2) h1'
            simp only [Nat.add_zero] at hst
            have hzc : (Builtin.zeroCells zv.cells len).toList = (List.range (len * sz')).map fun i => zv.cells[i % zv.cells.size]! := by
              simp [Builtin.zeroCells, hzs]
            match len, hc0 with
            | n + 1, _ => simp [Builtin.clear_, run_underlying h0, zeroValue, typeInfo, hi, hzi, hzc, hst]
      · simp at hcl
    · simp at hcl
  · simp at hcl
end
end Go.Ab
