/- Lengths; conversions; the greater of numbers. -/
import Derived.Test.YtmikgopohkbbfaaS15
namespace Go.Ab
open Go.RowKit (Below)
section
variable {P : Program} {an : An} {fid : FuncId} {G0 : Gh} {W0 : World} {G G' : Gh} {W : World} {S S' : St} {rho : Nat → Nat} {E E' : Env} {a : Act} {nt : Nat} {r : Rs}
theorem str_get (b : List UInt8) (n : Nat) : (ByteArray.mk b.toArray)[n]? = b[n]? := by
  show (if h : n < (ByteArray.mk b.toArray).size then some ((ByteArray.mk b.toArray)[n]'h) else none) = _
  by_cases h : n < b.length
  · rw [dif_pos (by simpa [ByteArray.size] using h), List.getElem?_eq_getElem h]
    rfl
  · rw [dif_neg (by simpa [ByteArray.size] using h), List.getElem?_eq_none (by omega)]
theorem ixs_rel {t : TypeId} (ht : P.underlying t = some .string) {x y : AV} {n : Int} {k : IntKind} {u : Value} (hx : VRel G W x u) (h : ixsV x n = some y) : ∃ w, (Instr.index t u (.int k n)).run P W = .ok w W ∧ VRel G W y w := by
  unfold ixsV at h
  split at h
  · rename_i b
    cases hx
    split at h
    · simp at h
    · rename_i hn
      split at h
      · rename_i c hc
        simp only [Option.some.injEq] at h; subst h
        refine ⟨_, ?_, .i _ _⟩
        have h0 : 0 ≤ n := by omega
        simp [Instr.index, asIntOf, run_underlying ht, h0, str_get, hc]
      · simp at h
  · simp at h
theorem un_rel {op : UnOp} {x y : AV} {u : Value} (hx : VRel G W x u) (h : unV op x = some y) : ∃ w, (Op.unary op u).run P W = .ok w W ∧ VRel G W y w := by
  unfold unV at h
  split at h
  · cases hx
    simp only [Option.some.injEq] at h; subst h
    exact ⟨_, by simp [Op.unary, Op.intArith], .i _ _⟩
  · rename_i k n
    cases hx
    simp only [binI, Option.some.injEq] at h; subst h
    exact ⟨_, by simp only [Op.unary, Op.intBits]; rfl, .i _ _⟩
  · cases hx
    simp only [Option.some.injEq] at h; subst h
    exact ⟨_, by simp [Op.unary], .b _⟩
  · simp at h
theorem len_rel {t ty : TypeId} {str : Bool} (ht : if str then P.underlying t = some .string else ∃ e, P.underlying t = some (.slice e)) {x : AV} {n : Nat} {u : Value} (hx : VRel G W x u) (h : lenV str x = some n) :
    (Builtin.len_ #[t] ty #[u]).run P W = .ok (.int .i64 (n : Int)) W := by
  cases str
  · simp only [Bool.false_eq_true, if_false] at ht
    obtain ⟨e, ht⟩ := ht
    cases hx <;> simp [lenV] at h <;> subst h <;> simp [Builtin.len_, run_underlying ht, goInt]
  · simp only [if_true] at ht
    cases hx <;> simp [lenV] at h
    rename_i b
    subst h
    have hsz : (ByteArray.mk b.toArray).size = b.length := by simp [ByteArray.size]
    simp [Builtin.len_, run_underlying ht, goInt, hsz]
theorem cap_rel {t ty e : TypeId} (ht : P.underlying t = some (.slice e)) {x : AV} {n : Nat} {u : Value} (hx : VRel G W x u) (h : capV x = some n) :
    (Builtin.cap_ #[t] ty #[u]).run P W = .ok (.int .i64 (n : Int)) W := by
  cases hx with
  | nl sz => simp [capV] at h; subst h; simp [Builtin.cap_, run_underlying ht, goInt]
  | sl sz xs t' c o cap us h0 he hf h1 hv hcap hnl hex hid =>
    cases t' <;> simp [capV] at h hnl
    subst h
    simp [Builtin.cap_, run_underlying ht, goInt, (hex rfl).1]
  | ar b off len cap cap' t' ad hb hp h1 had hlen hcap hin hnl hex hid =>
    cases t' <;> simp [capV] at h
    subst h
    simp [Builtin.cap_, run_underlying ht, goInt, hex rfl]
  | _ => simp [capV] at h
theorem mx2_rel {neg : Bool} {x y z : AV} {u v : Value} (hx : VRel G W x u) (hy : VRel G W y v) (h : mx2 neg x y = some z) : ∃ w, (if neg then Builtin.min2 u v else Builtin.max2 u v).run P W = .ok w W ∧ VRel G W z w := by
  unfold mx2 at h
  split at h
  · split at h
    · rename_i hk
      subst hk
      cases hx; cases hy
      simp only [Option.some.injEq] at h; subst h
      cases neg
      · exact ⟨_, by simp [Builtin.max2], .i _ _⟩
      · exact ⟨_, by simp [Builtin.min2], .i _ _⟩
    · simp at h
  · simp at h
theorem mxV_rel {neg : Bool} : ∀ {xs : List AV} {us : List Value} {x z : AV} {u : Value}, VRel G W x u → VRels G W xs us → mxV neg x xs = some z → ∃ w, (us.foldlM (if neg then Builtin.min2 else Builtin.max2) u).run P W = .ok w W ∧ VRel G W z w
  | [], _, x, z, u, hx, .nil, h => by
    simp only [mxV, Option.some.injEq] at h; subst h
    exact ⟨u, by simp, hx⟩
  | y :: r, _, x, z, u, hx, .cons _ v _ us hy hr, h => by
    simp only [mxV] at h
    split at h
    · rename_i m hm
      obtain ⟨w, h1, h2⟩ := mx2_rel (P := P) hx hy hm
      obtain ⟨w', h3, h4⟩ := mxV_rel h2 hr h
      refine ⟨w', ?_, h4⟩
      cases neg <;> simp at h1 h3 ⊢ <;> simp [h1, h3]
    · simp at h
end
end Go.Ab
