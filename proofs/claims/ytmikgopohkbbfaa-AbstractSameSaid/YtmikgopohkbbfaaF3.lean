/- Images that came in, read. -/
import Derived.Test.YtmikgopohkbbfaaS41
import Derived.Test.YtmikgopohkbbfaaF2
import Derived.Test.YtmikgopohkbbfaaRows
import Derived.WalkKit
import Derived.ProofKit
import Derived.OpenShut
import Derived.ShutString
import Derived.ChangeOld
import Derived.Below
import Derived.Carry
import Derived.Deep.Strs
import Derived.Deep.Slices
namespace Go.Ab
open Go.RowKit (Below)
open Go.Proofs Go.ChangeShapes Go.WideShapes Go.ChangeAt Go.RowKit
section
variable {H : Type} {enc : TypeId × Value → H} {W : World} {held : Bool}
theorem cells5 : Try.prog.cellsOf 5 = 1 := by kernel_rfl
theorem cells3 : Try.prog.cellsOf 3 = 1 := by kernel_rfl
theorem cells22 : Try.prog.cellsOf 22 = 1 := by kernel_rfl
theorem cells23 : Try.prog.cellsOf 23 = 1 := by kernel_rfl
theorem cells44 : Try.prog.cellsOf 44 = 2 := by kernel_rfl
theorem cells25 : Try.prog.cellsOf 25 = 3 := by kernel_rfl
theorem flat_one : ∀ (xs : List AV), (∀ x ∈ xs, x.cells = [x]) → flat xs = xs
  | [], _ => rfl
  | x :: xs, h => by
    rw [flat_cons, h x (by simp), flat_one xs (fun y hy => h y (List.mem_cons_of_mem _ hy))]
    rfl
theorem rd_nums : ∀ (zs : List Int), (∀ n ∈ zs, (Lit.int .u8 n).wf = true) → VRels (G_in W) W (byts (zs.map fun n => UInt8.ofNat n.toNat)) (zs.map fun n => Value.int .u8 n)
  | [], _ => .nil
  | n :: zs, h => by
    have hw := h n (by simp)
    simp only [Lit.wf, Bool.and_eq_true, decide_eq_true_eq] at hw
    have hmin : IntKind.min .u8 = 0 := by decide
    have hmax : IntKind.max .u8 = 255 := by decide
    rw [hmin, hmax] at hw
    have hn : (((UInt8.ofNat n.toNat).toNat : Nat) : Int) = n := by
      rw [UInt8.toNat_ofNat']
      omega
    simp only [List.map_cons, byts]
    refine .cons _ _ _ _ ?_ (rd_nums zs (fun m hm => h m (List.mem_cons_of_mem _ hm)))
    rw [hn]
    exact .i _ _
theorem rd_bytes {fuel : Nat} {cs : List Value} {x : DataW H × List MemPlace} (h : DataW.trod enc Try.prog W 0 (fun _ => true) held fuel 22 cs = some x) :
    ∃ (l : List UInt8) (tk : Tk) (u : Value), cs = [u] ∧ u.oneCell' = true ∧ VRel (G_in W) W (.sl 1 (byts l) tk) u := by
  rcases open_ints Try.underlying22 Try.underlying5 cells5 h with ⟨hcs, _⟩ | ⟨a, len, cap, zs, hcs, _, hl, _, hz, _, hcell, hwf⟩
  · exact ⟨[], .nl, _, hcs, rfl, .nl 1⟩
  · simp only [if_true] at hz
    by_cases hc0 : cap = 0
    · have hl0 : len = 0 := by omega
      subst hc0 hl0
      exact ⟨[], .no, _, hcs, rfl, .se 1 a⟩
    · have h0 := hcell 0 (by omega)
      have ha : a = ⟨a.block, a.off, none⟩ := spot_of (by simpa [Addr.add] using h0)
      refine ⟨(zs.take len).map fun n => UInt8.ofNat n.toNat, .no, _, hcs, rfl, ?_⟩
      have hlen : (byts ((zs.take len).map fun n => UInt8.ofNat n.toNat)).length = len := by rw [byts_length, List.length_map, List.length_take]; omega
      have hcell1 : ∀ x ∈ byts ((zs.take len).map fun n => UInt8.ofNat n.toNat), x.cells = [x] := by
        intro x hx
        simp only [byts, List.mem_map] at hx
        obtain ⟨c, _, rfl⟩ := hx
        rfl
      have hr := VRel.sl (G := G_in W) (W := W) 1 (byts ((zs.take len).map fun n => UInt8.ofNat n.toNat)) .no a.block a.off cap ((zs.take len).map fun n => Value.int .u8 n) (by omega) (fun x hx => by rw [hcell1 x hx]; rfl) (froz_in (fun j u hu => by
        rw [List.getElem?_map, Option.map_eq_some_iff] at hu
        obtain ⟨n, hn, rfl⟩ := hu
        rw [List.getElem?_take] at hn
        split at hn
        · have hj := (List.getElem?_eq_some_iff.1 hn).1
          have := hcell j hj
          rw [List.getD_eq_getElem?_getD, hn] at this
          exact cell_at ha this
        · simp at hn)) (fun u hu => by
        obtain ⟨n, _, rfl⟩ := List.mem_map.1 hu
        rfl) (by rw [flat_one _ hcell1]; exact rd_nums _ (fun n hn => hwf n (List.mem_of_mem_take hn))) (by rw [hlen]; exact hl) (by simp) (by simp) (by simp)
      rw [hlen, ← ha] at hr
      exact hr
def Cp.cs (c : Cp) : List AV := [.i .i64 c.id, .sl 1 (byts c.dat) c.tk]
theorem rd_copy {fuel : Nat} {cs : List Value} {x : DataW H × List MemPlace} (h : DataW.trod enc Try.prog W 0 (fun _ => true) held fuel 44 cs = some x) :
    ∃ c : Cp, VRels (G_in W) W c.cs cs ∧ ∀ u ∈ cs, u.oneCell' = true := by
  obtain ⟨y0, y1, n, _, hl, h0, h1⟩ := trod_struct2 Try.underlying44 h
  rw [cells44] at hl
  simp only [cells3, cells22] at h0 h1
  match cs, hl with
  | [c0, c1], _ =>
    simp only [List.drop_zero, List.take_succ_cons, List.take_zero, List.drop_succ_cons] at h0 h1
    obtain ⟨k, hk, _⟩ := DataW.trod_int Try.underlying3 h0
    obtain ⟨l, tk, u, hu, ho, hv⟩ := rd_bytes h1
    cases hk; cases hu
    refine ⟨⟨k, l, tk⟩, .cons _ _ _ _ (.i _ _) (.cons _ _ _ _ hv .nil), fun u hu => ?_⟩
    simp only [List.mem_cons, List.not_mem_nil, or_false] at hu
    rcases hu with rfl | rfl
    · rfl
    · exact ho
theorem rd_row {a : Addr} {n : Nat} {D : Nat → DataW H} {Pl : Nat → List MemPlace} : ∀ k : Nat, (∀ i, i < k → ∃ cs', W.cells? 0 (a.add (i * 2)) 2 = some cs' ∧ DataW.trod enc Try.prog W 0 (fun _ => true) held n 44 cs' = some (D i, Pl i)) → (0 < k → a = ⟨a.block, a.off, none⟩) →
    ∃ (l : List Cp) (us : List Value), l.length = k ∧ us.length = 2 * k ∧ VRels (G_in W) W (flat (l.map Cp.av)) us ∧ (∀ j u, us[j]? = some u → at_ W a.block (a.off + j) = some u) ∧ ∀ u ∈ us, u.oneCell' = true
  | 0, _, _ => ⟨[], [], rfl, rfl, .nil, by simp, by simp⟩
  | k + 1, h, ha => by
    obtain ⟨l, us, k1, k2, k3, k4, k5⟩ := rd_row k (fun i hi => h i (by omega)) (fun _ => ha (by omega))
    obtain ⟨cs', c1, c2⟩ := h k (Nat.lt_succ_self _)
    obtain ⟨c, e1, e2⟩ := rd_copy c2
    obtain ⟨_, q1, q2⟩ := World.cells?_some c1
    refine ⟨l ++ [c], us ++ cs', by simp [k1], by simp [k2, q1]; omega, ?_, ?_, ?_⟩
    · rw [List.map_append, flat_append]
      refine VRels.append k3 ?_
      have : flat ([c].map Cp.av) = c.cs := by simp [flat, Cp.av, Cp.cs, AV.cells]
      rw [this]; exact e1
    · intro j u hu
      by_cases hj : j < us.length
      · rw [List.getElem?_append_left hj] at hu
        exact k4 j u hu
      · rw [List.getElem?_append_right (by omega)] at hu
        have hjl := (List.getElem?_eq_some_iff.1 hu).1
        have := q2 (j - us.length) (by omega)
        rw [hu, ha (by omega), Addr.add_lit, Addr.add_lit] at this
        have e : a.off + k * 2 + (j - us.length) = a.off + j := by omega
        rw [e] at this
        exact this
    · intro u hu
      rcases List.mem_append.1 hu with hu | hu
      · exact k5 u hu
      · exact e2 u hu
theorem rd_copies {fuel : Nat} {cs : List Value} {x : DataW H × List MemPlace} (h : DataW.trod enc Try.prog W 0 (fun _ => true) held fuel 23 cs = some x) :
    ∃ (l : List Cp) (tk : Tk) (u : Value), cs = [u] ∧ u.oneCell' = true ∧ VRel (G_in W) W (.sl 2 (l.map Cp.av) tk) u := by
  rcases Deep.open_slice Try.underlying23 h with ⟨hcs, _⟩ | ⟨a, len, cap, m, n, D, Pl, hcs, _, hl, _, hm, _, hel⟩
  · exact ⟨[], .nl, _, hcs, rfl, .nl 2⟩
  · simp only [if_true] at hm
    subst hm
    rw [cells44] at hel
    by_cases hc0 : m = 0
    · have hl0 : len = 0 := by omega
      subst hc0 hl0
      exact ⟨[], .no, _, hcs, rfl, .se 2 a⟩
    · have ha : a = ⟨a.block, a.off, none⟩ := by
        obtain ⟨cs', c1, _⟩ := hel 0 (by omega)
        obtain ⟨_, q1, q2⟩ := World.cells?_some c1
        have := q2 0 (by omega)
        match cs', q1 with
        | [v0, v1], _ => exact spot_of (by simpa [Addr.add] using this)
      obtain ⟨l, us, k1, k2, k3, k4, k5⟩ := rd_row len (fun i hi => hel i (by omega)) (fun _ => ha)
      refine ⟨l, .no, _, hcs, rfl, ?_⟩
      have hr := VRel.sl (G := G_in W) (W := W) 2 (l.map Cp.av) .no a.block a.off m us (by omega) (fun x hx => by
        obtain ⟨c, _, rfl⟩ := List.mem_map.1 hx
        rfl) (froz_in k4) k5 k3 (by simp [k1]; exact hl) (by simp) (by simp) (by simp)
      rw [List.length_map, k1, ← ha] at hr
      exact hr
theorem rd_image {fuel : Nat} {cs : List Value} {x : DataW H × List MemPlace} (h : DataW.trod enc Try.prog W 0 (fun _ => true) held fuel 25 cs = some x) :
    ∃ m : Im, VRel (G_in W) W m.av (.agg cs.toArray) := by
  obtain ⟨y0, y1, y2, n, _, hl, h0, h1, h2⟩ := Deep.trod_struct3 Try.underlying25 h
  rw [cells25] at hl
  simp only [cells3, cells22, cells23] at h0 h1 h2
  match cs, hl with
  | [c0, c1, c2], _ =>
    simp only [List.drop_zero, List.take_succ_cons, List.take_zero, List.drop_succ_cons] at h0 h1 h2
    obtain ⟨l, tk, u, hu, ho, hv⟩ := rd_bytes h0
    obtain ⟨l', tk', u', hu', ho', hv'⟩ := rd_copies h1
    obtain ⟨k, hk, _⟩ := DataW.trod_int Try.underlying3 h2
    cases hk; cases hu; cases hu'
    refine ⟨⟨l, tk, l', tk', k⟩, .ag _ _ (fun u hu => ?_) (.cons _ _ _ _ hv (.cons _ _ _ _ hv' (.cons _ _ _ _ (.i _ _) .nil)))⟩
    simp only [List.mem_cons, List.not_mem_nil, or_false] at hu
    rcases hu with rfl | rfl | rfl
    · exact ho
    · exact ho'
    · rfl
end
end Go.Ab
