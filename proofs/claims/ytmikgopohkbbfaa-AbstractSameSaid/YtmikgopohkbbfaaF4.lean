/- Whatever two images come in, the law answers true, and they read afterwards as before. No condition. -/
import Derived.Test.YtmikgopohkbbfaaF3
namespace Go.Ab
open Go.Proofs Go.RowKit
set_option maxRecDepth 100000
theorem tbl : Tbl Try.prog an KK where
  fd f d h := by
    have h : tb f = some d := h
    unfold tb at h
    split at h
    · cases h; exact ⟨Try.f3, Try.func3, d3_eq, of_decide_eq_true (by kernel_rfl)⟩
    · cases h; exact ⟨Try.f4, Try.func4, d4_eq, of_decide_eq_true (by kernel_rfl)⟩
    · cases h; exact ⟨Try.f5, Try.func5, d5_eq, of_decide_eq_true (by kernel_rfl)⟩
    · cases h; exact ⟨Try.f6, Try.func6, d6_eq, of_decide_eq_true (by kernel_rfl)⟩
    · cases h; exact ⟨Try.f7, Try.func7, d7_eq, of_decide_eq_true (by kernel_rfl)⟩
    · cases h; exact ⟨Try.f8, Try.func8, d8_eq, of_decide_eq_true (by kernel_rfl)⟩
    · cases h; exact ⟨Try.f9, Try.func9, d9_eq, of_decide_eq_true (by kernel_rfl)⟩
    · cases h; exact ⟨Try.f10, Try.func10, d10_eq, of_decide_eq_true (by kernel_rfl)⟩
    · cases h; exact ⟨Try.f11, Try.func11, d11_eq, of_decide_eq_true (by kernel_rfl)⟩
    · cases h; exact ⟨Try.f12, Try.func12, d12_eq, of_decide_eq_true (by kernel_rfl)⟩
    · cases h; exact ⟨Try.f13, Try.func13, d13_eq, of_decide_eq_true (by kernel_rfl)⟩
    · cases h; exact ⟨Try.f14, Try.func14, d14_eq, of_decide_eq_true (by kernel_rfl)⟩
    · cases h; exact ⟨Try.f15, Try.func15, d15_eq, of_decide_eq_true (by kernel_rfl)⟩
    · cases h; exact ⟨Try.f16, Try.func16, d16_eq, of_decide_eq_true (by kernel_rfl)⟩
    · cases h; exact ⟨Try.f17, Try.func17, d17_eq, of_decide_eq_true (by kernel_rfl)⟩
    · cases h; exact ⟨Try.f18, Try.func18, d18_eq, of_decide_eq_true (by kernel_rfl)⟩
    · cases h; exact ⟨Try.f19, Try.func19, d19_eq, of_decide_eq_true (by kernel_rfl)⟩
    · cases h; exact ⟨Try.f20, Try.func20, d20_eq, of_decide_eq_true (by kernel_rfl)⟩
    · cases h; exact ⟨Try.f21, Try.func21, d21_eq, of_decide_eq_true (by kernel_rfl)⟩
    · cases h; exact ⟨Try.f22, Try.func22, d22_eq, of_decide_eq_true (by kernel_rfl)⟩
    · cases h; exact ⟨Try.f23, Try.func23, d23_eq, of_decide_eq_true (by kernel_rfl)⟩
    · cases h; exact ⟨Try.f24, Try.func24, d24_eq, of_decide_eq_true (by kernel_rfl)⟩
    · cases h; exact ⟨Try.f25, Try.func25, d25_eq, of_decide_eq_true (by kernel_rfl)⟩
    · cases h; exact ⟨Try.f26, Try.func26, d26_eq, of_decide_eq_true (by kernel_rfl)⟩
    · cases h; exact ⟨Try.f27, Try.func27, d27_eq, of_decide_eq_true (by kernel_rfl)⟩
    · cases h; exact ⟨Try.f28, Try.func28, d28_eq, of_decide_eq_true (by kernel_rfl)⟩
    · cases h; exact ⟨Try.f29, Try.func29, d29_eq, of_decide_eq_true (by kernel_rfl)⟩
    · cases h; exact ⟨Try.f30, Try.func30, d30_eq, of_decide_eq_true (by kernel_rfl)⟩
    · cases h; exact ⟨Try.f31, Try.func31, d31_eq, of_decide_eq_true (by kernel_rfl)⟩
    · cases h; exact ⟨Try.f32, Try.func32, d32_eq, of_decide_eq_true (by kernel_rfl)⟩
    · cases h; exact ⟨Try.f33, Try.func33, d33_eq, of_decide_eq_true (by kernel_rfl)⟩
    · cases h; exact ⟨Try.f34, Try.func34, d34_eq, of_decide_eq_true (by kernel_rfl)⟩
    · cases h; exact ⟨Try.f35, Try.func35, d35_eq, of_decide_eq_true (by kernel_rfl)⟩
    · cases h; exact ⟨Try.f36, Try.func36, d36_eq, of_decide_eq_true (by kernel_rfl)⟩
    · cases h; exact ⟨Try.f37, Try.func37, d37_eq, of_decide_eq_true (by kernel_rfl)⟩
    · cases h; exact ⟨Try.f38, Try.func38, d38_eq, of_decide_eq_true (by kernel_rfl)⟩
    · cases h; exact ⟨Try.f39, Try.func39, d39_eq, of_decide_eq_true (by kernel_rfl)⟩
    · cases h; exact ⟨Try.f40, Try.func40, d40_eq, of_decide_eq_true (by kernel_rfl)⟩
    · cases h; exact ⟨Try.f41, Try.func41, d41_eq, of_decide_eq_true (by kernel_rfl)⟩
    · cases h; exact ⟨Try.f42, Try.func42, d42_eq, of_decide_eq_true (by kernel_rfl)⟩
    · cases h; exact ⟨Try.f43, Try.func43, d43_eq, of_decide_eq_true (by kernel_rfl)⟩
    · cases h; exact ⟨Try.f44, Try.func44, d44_eq, of_decide_eq_true (by kernel_rfl)⟩
    · cases h; exact ⟨Try.f45, Try.func45, d45_eq, of_decide_eq_true (by kernel_rfl)⟩
    · cases h; exact ⟨Try.f46, Try.func46, d46_eq, of_decide_eq_true (by kernel_rfl)⟩
    · cases h; exact ⟨Try.f47, Try.func47, d47_eq, of_decide_eq_true (by kernel_rfl)⟩
    · cases h; exact ⟨Try.f48, Try.func48, d48_eq, of_decide_eq_true (by kernel_rfl)⟩
    · cases h; exact ⟨Try.f49, Try.func49, d49_eq, of_decide_eq_true (by kernel_rfl)⟩
    · cases h; exact ⟨Try.f50, Try.func50, d50_eq, of_decide_eq_true (by kernel_rfl)⟩
    · cases h
  ext f vs S v S' _ h := by cases h
theorem globs_in (W : World) : Globs an (G_in W) W := fun g cs h => by simp [an] at h
theorem law_walk {W : World} {cs0 cs1 : Array Value} {a b : Im} (ha : VRel (G_in W) W a.av (.agg cs0)) (hb : VRel (G_in W) W b.av (.agg cs1)) :
    Calls Try.prog 3 #[.agg cs0, .agg cs1] W fun e w' => e = .returned (.bool true) ∧ Below W.heap.size W w' := by
  have h := calls_in (us := [.agg cs0, .agg cs1]) tbl Try.func3 (by kernel_rfl) (of_decide_eq_true (by kernel_rfl)) (s3 a b) (globs_in W) (.cons _ _ _ _ ha (.cons _ _ _ _ hb .nil))
  refine h.mono ?_
  intro e w he
  cases e with
  | returned u =>
    obtain ⟨v, S', G', hv, hr, hbel⟩ := he
    subst hv
    cases hr
    exact ⟨rfl, hbel⟩
  | panicked _ => exact he.elim
  | outgrown => exact he.elim
end Go.Ab
namespace Go.Proofs.Ytmikgopohkbbfaa
open Go.ChangeShapes Go.WideShapes Go.ChangeAt Go.RowKit Go.Ab
set_option linter.unusedVariables false
theorem own : ownKnob Try.prog.godebug = none := by kernel_rfl
theorem laidOut : laidOutB Try.prog = true := by kernel_rfl
set_option maxRecDepth 100000 in
theorem lifted (os : Os) (started : os.Started) (H : Type) (enc : TypeId × Value → H) :
    ReturnsInHanded {} Try.checked os 3 .any (Rows.abstractSameSpec.pre6 enc Try.prog Try.f3 Rows.abstractSameRow.domain false) (Rows.abstractSameSpec.post enc Try.prog Try.f3 false true false false) := by
  refine returnsInHanded_of_change (C := Try.checked) own started (by kernel_rfl) Try.func3
    (ChangeSpec.witness6 (enc := enc) (C := Try.checked) false ⟨#[], #[.agg #[.slice none 0 0, .slice none 0 0, .int .i64 0], .agg #[.slice none 0 0, .slice none 0 0, .int .i64 0]], []⟩ 8 (by kernel_rfl) (by kernel_rfl) (by kernel_rfl) (by kernel_rfl)) ?_
  intro W base args ds gs before hval0 hW hcnd _
  have hval : ∀ (j : Nat) t v, Try.f3.params[j]? = some t → args[j]? = some v → Value.okWide Try.prog W .any base t v := hval0
  have hW' := hW
  obtain ⟨p, q, hA0, hV, rfl, hfz, hnd⟩ := hW
  have hA : DataW.TrodAll enc Try.prog W 0 (fun _ => true) true Try.f3.params.toList args.toList ds p := hA0
  rw [Try.params3] at hA hval
  obtain ⟨v0, vs0, d0, ds0, p0, q0, hargs, rfl, rfl, h0, r0⟩ := trodAll_cons hA
  obtain ⟨v1, vs1, d1, ds1, p1, q1, rfl, rfl, rfl, h1, r1⟩ := trodAll_cons r0
  obtain ⟨rfl, rfl, rfl⟩ := trodAll_nil r1
  obtain rfl : args = #[v0, v1] := by cases args; simp_all
  obtain ⟨rfl, rfl⟩ := trodVars_none hV
  obtain ⟨cs0, rfl, _⟩ := okWide_struct Try.underlying25 (hval 0 25 v0 rfl rfl)
  obtain ⟨cs1, rfl, _⟩ := okWide_struct Try.underlying25 (hval 1 25 v1 rfl rfl)
  have k0 := h0
  have lt0 : ∀ x ∈ p0, x.block < W.heap.size := by obtain ⟨m, hm⟩ := k0; exact DataW.trod_lt m _ _ _ hm
  have k1 := h1
  have lt1 : ∀ x ∈ p1, x.block < W.heap.size := by obtain ⟨m, hm⟩ := k1; exact DataW.trod_lt m _ _ _ hm
  obtain ⟨a, ha⟩ : ∃ m : Im, VRel (G_in W) W m.av (.agg cs0) := by
    obtain ⟨fuel, hf⟩ := h0
    exact rd_image hf
  obtain ⟨b, hb⟩ : ∃ m : Im, VRel (G_in W) W m.av (.agg cs1) := by
    obtain ⟨fuel, hf⟩ := h1
    exact rd_image hf
  clear hA0 hval0
  refine (law_walk ha hb).mono fun e W' ⟨he, bel⟩ => ?_
  subst he
  exact ⟨_, rfl, _, _, _, [], _, [], hW', trodAll_mk1 (shut_bool Try.underlying4 _), (trodAll_cons_mk (Below.trod laidOut (by kernel_rfl) (of_decide_eq_true (by kernel_rfl)) k0 bel lt0) (trodAll_cons_mk (Below.trod laidOut (by kernel_rfl) (of_decide_eq_true (by kernel_rfl)) k1 bel lt1) trodAll_mk0)), rfl, bel.frame _, fun h => by cases h⟩
theorem over : Rows.abstractSameRow.holds Try.pinned (OpenSpec.ofChange Rows.abstractSameSpec) :=
  OpenClaim.holds_of_wide 3 Try.f3 rfl rfl rfl rfl rfl rfl rfl ⟨rfl, rfl, rfl, rfl, rfl⟩ rfl rfl rfl rfl rfl (by kernel_rfl) Try.func3 (by kernel_rfl)
    (of_decide_eq_true (by kernel_rfl)) (by unfold Func.isWrapper; first | (rw [if_pos (by decide +kernel)]; kernel_rfl) | (rw [if_neg (by decide +kernel)]; exact ⟨rfl, rfl⟩))
    (fun os started H enc _ => lifted os started H enc)
theorem abstractSame_holds : Rows.AbstractSameSaid := over
#print axioms abstractSame_holds
end Go.Proofs.Ytmikgopohkbbfaa
