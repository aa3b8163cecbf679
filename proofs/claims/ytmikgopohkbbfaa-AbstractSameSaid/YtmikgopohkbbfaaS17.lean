/- Conversions of strings; what makes new blocks. -/
import Derived.Test.YtmikgopohkbbfaaS16
import Derived.Laws.IdiomStrings
namespace Go.Ab
open Go.RowKit (Below)
section
variable {P : Program} {an : An} {fid : FuncId} {G0 : Gh} {W0 : World} {G G' : Gh} {W : World} {S S' : St} {rho : Nat → Nat} {E E' : Env} {a : Act} {nt : Nat} {r : Rs}
theorem bytesOf_rel : ∀ {xs : List AV} {l : List UInt8} {us : List Value}, bytesOf xs = some l → VRels G W (flat xs) us → us = l.map (fun c => Value.int .u8 (c.toNat : Int)) ∧ xs.length = l.length
  | [], l, us, h, hv => by
    simp [bytesOf] at h; subst h
    cases hv; simp
  | x :: r, l, us, h, hv => by
    unfold bytesOf at h
    split at h
    · contradiction
    · rename_i n r' hxr
      simp only [List.cons.injEq] at hxr
      obtain ⟨rfl, rfl⟩ := hxr
      split at h
      · rename_i hn
        split at h
        · rename_i t ht
          simp only [Option.some.injEq] at h; subst h
          simp only [flat, List.flatMap_cons, AV.cells, List.singleton_append] at hv
          cases hv with
          | cons _ u _ us hx hr =>
            cases hx
            obtain ⟨h1, h2⟩ := bytesOf_rel ht hr
            refine ⟨?_, by simp [h2]⟩
            rw [h1]
            have : ((UInt8.ofNat n.toNat).toNat : Int) = n := by
              have : (UInt8.ofNat n.toNat).toNat = n.toNat % 2 ^ 8 := by simp [UInt8.toNat_ofNat']
              rw [this]; omega
            rw [List.map_cons, this]
        · simp at h
      · simp at h
    · simp at h
theorem bytesOf_el : ∀ {xs : List AV} {l : List UInt8}, bytesOf xs = some l → xs.all (elemV 1) = true
  | [], _, _ => rfl
  | x :: r, l, h => by
    unfold bytesOf at h
    split at h
    · contradiction
    · rename_i n r' hxr
      simp only [List.cons.injEq] at hxr
      obtain ⟨rfl, rfl⟩ := hxr
      split at h
      · split at h
        · rename_i t ht
          simp [bytesOf_el ht, elemV, AV.cells]
        · simp at h
      · simp at h
    · simp at h
/-- Bytes as a string. -/
theorem cvs_rel (hs : SRel G W S) {src dst e : TypeId} (h1 : P.underlying src = some (.slice e)) (h2 : P.underlying e = some (.int .u8)) (h3 : P.underlying dst = some .string) {v : AV} {u : Value} {xs : List AV} {l : List UInt8}
    (hv : VRel G W v u) (hns : ∀ b, v ≠ .s b) (hc : cont S v = some xs) (hb : bytesOf xs = some l) : (convert src dst u).run P W = .ok (.string ⟨l.toArray⟩) W := by
  obtain ⟨news, hr, hn, _⟩ := cont_rel (P := P) hs hv hc (sz := 1) (by omega) (bytesOf_el hb)
  obtain ⟨q1, q2⟩ := bytesOf_rel hb hn
  have q3 := (hr W rfl).2 xs.length (Nat.le_refl _)
  have q4 := (hr W rfl).1
  have hsl : ∃ ad n c, u = .slice ad n c := by
    cases hv with
    | s b => exact absurd rfl (hns b)
    | nl s => exact ⟨_, _, _, rfl⟩
    | sl => exact ⟨_, _, _, rfl⟩
    | se => exact ⟨_, _, _, rfl⟩
    | ar => exact ⟨_, _, _, rfl⟩
    | _ => simp [cont] at hc
  obtain ⟨ad, n, c, rfl⟩ := hsl
  have hn' : n = xs.length := by simpa [Builtin.lenOf] using q4
  subst hn'
  rw [run_convert_bytes_string W src dst e ad xs.length c h1 h2 h3]
  subst q1
  have htk : (List.map (fun c => Value.int IntKind.u8 (c.toNat : Int)) l).take (xs.length * 1) = l.map (fun c => Value.int .u8 (c.toNat : Int)) := by
    rw [Nat.mul_one, List.take_of_length_le (by simp [q2])]
  rw [htk] at q3
  cases ad with
  | none =>
    simp [Builtin.firstCells] at q3
    subst q3
    simp [Conv.bytesToString]
    rfl
  | some p =>
    simp only [Builtin.firstCells, Nat.mul_one] at q3
    have := run_bytesToString (P := P) W p xs.length c (l.map fun b => (b.toNat : Int)) (by rw [List.map_map]; exact q3)
    rw [this, foldl_push_byteCells]
    have he0 : ByteArray.empty.data = #[] := rfl
    rw [he0]
    simp
/-- A string as bytes. -/
theorem cvb_done (h : ARel G0 W0 G W rho E a nt) (hs : SRel G W S) {src dst e : TypeId} (h1 : P.underlying src = some .string) (h2 : P.underlying dst = some (.slice e)) (h3 : P.underlying e = some (.int .u8)) {b : List UInt8}
    {s : Sem Next} (hrun : ∀ w W', (convert src dst (.string ⟨b.toArray⟩)).run P W = .ok w W' → s.run P W = .ok (.value w) W') : Done P G0 W0 nt a s W (.val (.sl 1 (b.map fun c => .i .u8 c.toNat) .no)) E S := by
  have hr := run_bytes_of_string (P := P) W src dst e ⟨b.toArray⟩ h1 h2 h3
  have hsz : (ByteArray.mk b.toArray).size = b.length := by simp [ByteArray.size]
  obtain ⟨us, hus⟩ : ∃ us : List Value, us = (bytesRow ⟨b.toArray⟩ (grownCap W (ByteArray.mk b.toArray).size 0 e)).toList := ⟨_, rfl⟩
  have hCu : bytesRow ⟨b.toArray⟩ (grownCap W (ByteArray.mk b.toArray).size 0 e) = us.toArray := by rw [hus]
  rw [hCu] at hr
  have hdr : ARel G0 W0 G W.drew rho E a nt := h.mono (ext_drew G W)
  have hcells : ∀ (j : Nat) (u : Value), (b.map fun c => Value.int .u8 (c.toNat : Int))[j]? = some u → us[j]? = some u := by
    intro j u hu
    have hj := (List.getElem?_eq_some_iff.1 hu).1
    simp at hj
    rw [hus]
    simp only [bytesRow, Array.toList_append, Array.toList_map]
    rw [List.getElem?_append_left (by simpa using hj)]
    exact hu
  obtain ⟨k1, k2, k3, k4⟩ := alloc_fz hdr (srel_drew hs) us e (us.toArray.size, us.toArray.size + 1)
  rw [hsz] at hr
  have hhs : W.drew.heap.size = W.heap.size := rfl
  rw [hhs] at k1 k2 k3 k4
  refine ⟨_, _, _, rho, .inl (hrun _ _ hr), ?_, k2, k3⟩
  have hg := grownCap_ge W b.length 0 e
  have := VRel.sl (G := G.newK W.heap.size (fun _ => .fz)) (W := W.drew.alloc (.cells us.toArray e (us.toArray.size, us.toArray.size + 1))) 1 (b.map fun c => AV.i .u8 c.toNat) .no W.heap.size 0 (grownCap W b.length 0 e) (b.map fun c => Value.int .u8 (c.toNat : Int)) (by omega)
    (by intro x hx; simp at hx; obtain ⟨y, _, rfl⟩ := hx; rfl) (fun (j : Nat) (u : Value) hu => ⟨(k4 j u (hcells j u hu)).1, (k4 j u (hcells j u hu)).2⟩)
    (by intro u hu; simp at hu; obtain ⟨y, _, rfl⟩ := hu; rfl) ?_ (by simpa using hg) (by simp) (by simp) (by simp)
  · rw [List.length_map] at this
    exact this
  · have gen : ∀ (G : Gh) (W : World) (b : List UInt8), VRels G W (flat (b.map fun c => AV.i .u8 c.toNat)) (b.map fun c => Value.int .u8 (c.toNat : Int)) := by
      intro G W b
      induction b with
      | nil => exact .nil
      | cons x r ih => exact .cons _ _ _ _ (.i _ _) ih
    exact gen _ _ b
end
end Go.Ab
