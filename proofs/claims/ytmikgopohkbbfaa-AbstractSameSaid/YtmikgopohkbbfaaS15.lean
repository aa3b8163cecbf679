/- Slicing; strings. -/
import Derived.Test.YtmikgopohkbbfaaS14
namespace Go.Ab
open Go.RowKit (Below)
section
variable {P : Program} {an : An} {fid : FuncId} {G0 : Gh} {W0 : World} {G G' : Gh} {W : World} {S S' : St} {rho : Nat → Nat} {E E' : Env} {a : Act} {nt : Nat} {r : Rs}
theorem sliceBound_ok {k : IntKind} {n y : Nat} {code : BoundsCode} (h : n ≤ y) : (Instr.sliceBound (.int k (n : Int)) y code).run P W = .ok n W := by
  simp [Instr.sliceBound, asIntOf, h]
/-- The bounds of a slice expression. -/
theorem sliceBounds_ok {isS : Bool} {len cap lo : Nat} {hi mx : Option Nat} {vlo vhi vmx : Option Value} (hlo : (vlo = none ∧ lo = 0) ∨ ∃ k, vlo = some (.int k (lo : Int))) (hhi : (vhi = none ∧ hi = none) ∨ ∃ k, ∃ n : Nat, vhi = some (.int k (n : Int)) ∧ hi = some n) (hmx : (vmx = none ∧ mx = none) ∨ ∃ k, ∃ n : Nat, vmx = some (.int k (n : Int)) ∧ mx = some n)
    (hnn : ¬ (hi = none ∧ mx.isSome = true)) (h1 : lo ≤ hi.getD len) (h2 : hi.getD len ≤ mx.getD cap) (h3 : mx.getD cap ≤ cap) :
    (Instr.sliceBounds isS len cap vlo vhi vmx).run P W = .ok (lo, hi.getD len, mx.getD cap) W := by
  rcases hmx with ⟨rfl, rfl⟩ | ⟨km, m, rfl, rfl⟩
  · rcases hhi with ⟨rfl, rfl⟩ | ⟨kh, n, rfl, rfl⟩
    · rcases hlo with ⟨rfl, rfl⟩ | ⟨kl, rfl⟩
      · simp [Instr.sliceBounds]
      · simp only [Option.getD_none] at h1 h2
        simp [Instr.sliceBounds, sliceBound_ok h1]
    · simp only [Option.getD_some, Option.getD_none] at h1 h2
      rcases hlo with ⟨rfl, rfl⟩ | ⟨kl, rfl⟩
      · simp [Instr.sliceBounds, sliceBound_ok h2]
      · simp [Instr.sliceBounds, sliceBound_ok h2, sliceBound_ok h1]
  · rcases hhi with ⟨rfl, rfl⟩ | ⟨kh, n, rfl, rfl⟩
    · exact absurd ⟨rfl, rfl⟩ hnn
    · simp only [Option.getD_some] at h1 h2 h3
      rcases hlo with ⟨rfl, rfl⟩ | ⟨kl, rfl⟩
      · simp [Instr.sliceBounds, sliceBound_ok h2, sliceBound_ok h3]
      · simp [Instr.sliceBounds, sliceBound_ok h2, sliceBound_ok h1, sliceBound_ok h3]
theorem extract_str (b : List UInt8) (l h : Nat) : (ByteArray.mk b.toArray).extract l h = ByteArray.mk ((b.take h).drop l).toArray := by
  apply ByteArray.ext
  rw [ByteArray.data_extract]
  apply Array.ext'
  simp [List.drop_take]
theorem slc_rel (hs : SRel G W S) {t : TypeId} {sz lo : Nat} {hi mx : Option Nat} {x y : AV} {u : Value} {vlo vhi vmx : Option Value} (ht : (P.underlying t = some .string ∧ sz = 0) ∨ ∃ e, P.underlying t = some (.slice e) ∧ cSize P e = some sz ∧ 0 < sz)
    (hlo : (vlo = none ∧ lo = 0) ∨ ∃ k, vlo = some (.int k (lo : Int))) (hhi : (vhi = none ∧ hi = none) ∨ ∃ k, ∃ n : Nat, vhi = some (.int k (n : Int)) ∧ hi = some n) (hmx : (vmx = none ∧ mx = none) ∨ ∃ k, ∃ n : Nat, vmx = some (.int k (n : Int)) ∧ mx = some n)
    (hnn : ¬ (hi = none ∧ mx.isSome = true)) (hx : VRel G W x u) (hsl : slcV S sz x lo hi mx = some y) : ∃ w, (Instr.sliceAt t u vlo vhi vmx).run P W = .ok w W ∧ VRel G W y w := by
  rcases ht with ⟨ht, rfl⟩ | ⟨e, ht, hn, hsz⟩
  · have hxs : ∃ b, x = .s b := by
      cases hx with
      | s b => exact ⟨b, rfl⟩
      | ar b off len cap cap' t' ad hb hp h1 =>
        simp only [slcV] at hsl
        split at hsl
        · rename_i s all harr
          have := (hs.arrs b s all harr).2.1
          rw [if_neg (by omega)] at hsl
          simp at hsl
        · simp at hsl
      | _ => simp [slcV] at hsl
    obtain ⟨b, rfl⟩ := hxs
    cases hx
    simp only [slcV, ne_eq, not_true_eq_false, false_or] at hsl
    split at hsl
    · simp at hsl
    · rename_i hm
      split at hsl
      · rename_i hc
        simp only [Option.some.injEq] at hsl
        subst hsl
        have hmn : mx = none := by simpa using hm
        subst hmn
        rcases hmx with ⟨rfl, _⟩ | ⟨_, _, _, hbad⟩
        · have hb := sliceBounds_ok (P := P) (W := W) (isS := false) (len := b.length) (cap := b.length) hlo hhi (vmx := none) (.inl ⟨rfl, rfl⟩) hnn hc.1 hc.2 (Nat.le_refl _)
          have hsize : (ByteArray.mk b.toArray).size = b.length := by simp [ByteArray.size]
          refine ⟨_, ?_, .s _⟩
          simp only [Instr.sliceAt, Sem.run_bind, run_underlying ht, Result.andThen_ok, Instr.slice, hsize]
          simp [hb, extract_str]
        · simp at hbad
      · simp at hsl
  · have hrun : ∀ (ad : Option Addr) (len cap h m : Nat), (Instr.sliceBounds true len cap vlo vhi vmx).run P W = .ok (lo, h, m) W → (Instr.sliceAt t (.slice ad len cap) vlo vhi vmx).run P W = .ok (.slice (if m = lo then ad else ad.map (·.add (lo * sz))) (h - lo) (m - lo)) W := by
      intro ad len cap h m hb
      simp only [Instr.sliceAt, Sem.run_bind, run_underlying ht, Result.andThen_ok, Instr.slice, hb, run_sizeOf hn]
      simp
    cases hx with
    | s b => simp [slcV, Nat.ne_of_gt hsz] at hsl
    | nl s =>
      simp only [slcV, if_true, if_neg (Nat.ne_of_gt hsz)] at hsl
      split at hsl
      · rename_i hc
        obtain ⟨rfl, hh, hm⟩ := hc
        simp only [Option.some.injEq] at hsl
        subst hsl
        have hb := sliceBounds_ok (P := P) (W := W) (isS := true) (len := 0) (cap := 0) hlo hhi hmx hnn (by omega) (by omega) (by omega)
        rw [hh, hm] at hb
        exact ⟨_, hrun none 0 0 0 0 hb, .nl s⟩
      · simp at hsl
    | se s ad =>
      simp only [slcV, if_neg (Nat.ne_of_gt hsz), if_neg (show ¬ Tk.no = .nl by simp)] at hsl
      split at hsl
      · rename_i hc
        simp only [List.length_nil] at hc
        obtain ⟨rfl, h1, h2, h3⟩ := hc
        have e3 : mx.getD 0 = 0 := by omega
        have e2 : hi.getD 0 = 0 := by omega
        have e1 : lo = 0 := by omega
        subst e1
        simp only [Option.some.injEq, List.length_nil, List.take_nil, List.drop_nil] at hsl
        have hz : (if mx.isSome = true then Tk.no else if hi.getD 0 = 0 then Tk.no else Tk.no) = .no := by (repeat' split) <;> rfl
        rw [hz] at hsl
        subst hsl
        have hb := sliceBounds_ok (P := P) (W := W) (isS := true) (len := 0) (cap := 0) hlo hhi hmx hnn (by omega) (by omega) (by omega)
        rw [e2, e3] at hb
        exact ⟨_, hrun (some ad) 0 0 0 0 hb, .se s ad⟩
      · simp at hsl
    | sl s xs t' c o cap us h1 hel hf hu1 hv hcap hnl hex hid =>
      simp only [slcV, if_neg hnl, if_neg (Nat.ne_of_gt hsz)] at hsl
      split at hsl
      · rename_i hc
        obtain ⟨rfl, hc1, hc2, hc3⟩ := hc
        simp only [Option.some.injEq] at hsl
        subst hsl
        -- what the machine takes for the end of the room
        obtain ⟨m, hm⟩ : ∃ m, m = mx.getD cap := ⟨_, rfl⟩
        have hm1 : hi.getD xs.length ≤ m := by rw [hm]; cases mx <;> simp at hc2 hc3 ⊢ <;> omega
        have hm2 : m ≤ cap := by rw [hm]; cases mx <;> simp at hc2 hc3 ⊢ <;> omega
        have hb := sliceBounds_ok (P := P) (W := W) (isS := true) (len := xs.length) (cap := cap) hlo hhi hmx hnn hc1 (by rw [← hm]; exact hm1) (by rw [← hm]; exact hm2)
        rw [← hm] at hb
        have hr := hrun (some ⟨c, o, none⟩) xs.length cap _ _ hb
        have hhl : hi.getD xs.length ≤ xs.length := by omega
        have hlen : ((xs.take (hi.getD xs.length)).drop lo).length = hi.getD xs.length - lo := by simp; omega
        have hul : us.length = xs.length * s := by rw [VRels.length hv, flat_len hel]
        obtain ⟨h', hh'⟩ : ∃ h', h' = hi.getD xs.length := ⟨_, rfl⟩
        rw [← hh'] at hr hlen hhl hm1 hc1 ⊢
        have hel' : ∀ x ∈ (xs.take h').drop lo, x.cells.length = s := fun x hx => hel x (List.mem_of_mem_take (List.mem_of_mem_drop hx))
        by_cases hml : m = lo
        · rw [if_pos hml] at hr
          have h0 : h' - lo = 0 := by omega
          have hnil : (xs.take h').drop lo = [] := by rw [← List.length_eq_zero_iff, hlen, h0]
          refine ⟨_, hr, ?_⟩
          rw [hnil, h0, show m - lo = 0 by omega]
          refine .sl s [] _ c o 0 [] h1 (by simp) (by intro j u hu; simp at hu) (by simp) .nil (Nat.le_refl _) ?_ ?_ ?_
          · split
            · simp
            · split
              · exact hnl
              · simp
          · intro he
            refine ⟨rfl, ?_⟩
            split at he
            · simp at he
            · split at he
              · exact (hex he).2
              · simp at he
          · intro k hk
            refine ⟨?_, by simp⟩
            split at hk
            · simp at hk
            · split at hk
              · exact (hid k hk).1
              · simp at hk
        · rw [if_neg hml] at hr
          refine ⟨_, hr, ?_⟩
          simp only [Option.map_some, Addr.add_lit]
          have hres := VRel.sl (G := G) (W := W) s ((xs.take h').drop lo) (if mx.isSome then .no else if h' = xs.length then t' else .no) c (o + lo * s) (m - lo) ((us.drop (lo * s)).take ((h' - lo) * s)) h1 hel' ?_ (mem_sub hu1 _ _) ?_ (by rw [hlen]; omega) ?_ ?_ ?_
          · rw [hlen] at hres; exact hres
          · intro j u hu
            rw [List.getElem?_take] at hu
            split at hu
            · rw [List.getElem?_drop] at hu
              have := hf _ _ hu
              rwa [← Nat.add_assoc] at this
            · simp at hu
          · rw [List.drop_take, ← flat_take (fun x hx => hel x (List.mem_of_mem_drop hx)), ← flat_drop hel]
            exact VRels.take _ (VRels.drop _ hv)
          · split
            · simp
            · split
              · exact hnl
              · simp
          · intro he
            split at he
            · simp at he
            · rename_i hmx0
              split at he
              · rename_i hhe
                have hmn : mx = none := by simpa using hmx0
                subst hmn
                refine ⟨?_, (hex he).2⟩
                rw [hlen, hm]
                have := (hex he).1
                simp; omega
              · simp at he
          · intro k hk
            split at hk
            · simp at hk
            · rename_i hmx0
              split at hk
              · rename_i hhe
                have hmn : mx = none := by simpa using hmx0
                subst hmn
                simp only [Option.getD_none] at hm
                subst hm
                obtain ⟨k1, k2⟩ := hid k hk
                refine ⟨k1, fun hl => ?_⟩
                rw [hlen] at hl ⊢
                rw [k2 (by omega)]
                have e1 : o + lo * s + (h' - lo) * s = o + xs.length * s := by rw [Nat.add_assoc, ← Nat.add_mul]; congr 2; omega
                have e2 : o + lo * s + (m - lo) * s = o + m * s := by rw [Nat.add_assoc, ← Nat.add_mul]; congr 2; omega
                rw [e1, e2]
              · simp at hk
      · simp at hsl
    | ar b off len cap cap' t' ad hb hp h1 had hlen hcap hin hnl hex hid =>
      simp only [slcV] at hsl
      split at hsl
      · rename_i s all harr
        split at hsl
        · rename_i hc
          obtain ⟨rfl, hc1, hc2, hc3⟩ := hc
          simp only [Option.some.injEq] at hsl
          subst hsl
          obtain ⟨_, _, _, krest⟩ := hs.arrs b s all harr
          obtain ⟨e1, _⟩ := krest hp
          obtain ⟨m, hm⟩ : ∃ m, m = mx.getD cap' := ⟨_, rfl⟩
          obtain ⟨m0, hm0⟩ : ∃ m0, m0 = mx.getD cap := ⟨_, rfl⟩
          obtain ⟨h', hh'⟩ : ∃ h', h' = hi.getD len := ⟨_, rfl⟩
          have hmm : m0 ≤ m ∧ m ≤ cap' ∧ (mx.isSome = true → m = m0) ∧ (mx = none → m = cap' ∧ m0 = cap) := by
            rw [hm, hm0]; cases mx <;> simp at hc2 hc3 ⊢ <;> omega
          rw [← hh', ← hm0] at hc2 ⊢
          rw [← hh'] at hc1
          rw [← hm0] at hc3
          have hbd := sliceBounds_ok (P := P) (W := W) (isS := true) (len := len) (cap := cap') hlo hhi hmx hnn (by rw [← hh']; exact hc1) (by rw [← hm, ← hh']; omega) (by rw [← hm]; exact hmm.2.1)
          rw [← hm, ← hh'] at hbd
          have hr := hrun (some ad) len cap' _ _ hbd
          refine ⟨_, hr, ?_⟩
          have hnl' : (if mx.isSome = true then Tk.ex else t') ≠ .nl := by
            split
            · simp
            · exact hnl
          have hex' : (if mx.isSome = true then Tk.ex else t') = .ex → m - lo = m0 - lo := by
            intro he
            by_cases hq : mx.isSome = true
            · rw [hmm.2.2.1 hq]
            · rw [if_neg hq] at he
              have hmn : mx = none := by simpa using hq
              have := hex he
              obtain ⟨q1, q2⟩ := hmm.2.2.2 hmn
              omega
          have hid' : ∀ k, (if mx.isSome = true then Tk.ex else t') = .id k → k < G.next ∧ (G.alen b < off + lo + (m - lo) → G.ta k = ((G.al b).1, (G.al b).2 + G.alen b * G.asz b, (G.al b).2 + (off + lo + (m - lo)) * G.asz b)) := by
            intro k hk
            by_cases hq : mx.isSome = true
            · rw [if_pos hq] at hk; simp at hk
            · rw [if_neg hq] at hk
              have hmn : mx = none := by simpa using hq
              obtain ⟨q1, q2⟩ := hmm.2.2.2 hmn
              obtain ⟨k1, k2⟩ := hid k hk
              refine ⟨k1, fun hl => ?_⟩
              rw [show off + lo + (m - lo) = off + cap' by omega] at hl ⊢
              exact k2 hl
          by_cases hml : m = lo
          · rw [if_pos hml]
            exact .ar b (off + lo) (h' - lo) (m0 - lo) (m - lo) _ ad hb hp h1 ⟨had.1, fun hpos => by omega⟩ (by omega) (by omega) (by omega) hnl' hex' hid'
          · rw [if_neg hml]
            have had' := had.2 (by omega)
            subst had'
            simp only [Option.map_some, Addr.add_lit]
            refine .ar b (off + lo) (h' - lo) (m0 - lo) (m - lo) _ _ hb hp h1 ⟨rfl, fun _ => ?_⟩ (by omega) (by omega) (by omega) hnl' hex' hid'
            rw [e1, Nat.add_mul, Nat.add_assoc]
        · simp at hsl
      · simp at hsl
    | _ => simp [slcV] at hsl
end
end Go.Ab
