import Derived.Test.YtnfiihdebonadaaGreatDoorZA1
import Derived.Test.YtnfiihdebonadaaGreatDoorZCA4
set_option linter.unusedSimpArgs false
set_option linter.unusedVariables false
set_option linter.unusedSectionVars false
namespace Go.Proofs.YtnfiihdebonadaaGreatDoor.Abs
open Go.ChangeShapes Go.WideShapes Go.RowKit Go.Proofs.YtnfiihdebonadaaGreatDoor

theorem ca_all (W0 : World) (S : St) (k : List UInt8) (hk : k.length < 4294967281) : Gives Pr W0 Fn.strings_ContainsAny [.str k, .str [61, 0, 10]] S (.bool (k.any fun b => b == 61 || b == 0 || b == 10)) := contains_any hk

theorem big_of_shaped {W : World} (h : W.ShapedOpen Tryz.prog) : 7 < W.heap.size := by
  obtain ⟨o, o₀, h1, _⟩ := h.2 7 (of_decide_eq_true (by kernel_rfl)) (of_decide_eq_true (by kernel_rfl))
  rcases Nat.lt_or_ge 7 W.heap.size with h' | h'
  · exact h'
  · rw [Array.getElem?_eq_none h'] at h1; cases h1
theorem glob_W {W : World} (hsh : W.ShapedOpen Tryz.prog) (h : laidMetH Tryz.prog laidL W) : Glob W ∧ IsErrType W := by
  obtain ⟨h1, h2, h3, h4, h5⟩ := glob_of_laid hsh h
  exact ⟨⟨big_of_shaped hsh, h2, h3, h4, h5, fun S k hk => ca_all W S k hk⟩, h1⟩

/-- The empty memory, at the world in which the call begins. -/
theorem srel_start (W : World) : SRel W (fun _ => none) ⟨[]⟩ W :=
  ⟨Below.refl _ _, fun _ _ _ h => (by cases h), fun _ _ h => (by cases h), fun _ _ _ h => (by cases h), fun _ _ _ _ _ h => (by cases h), fun _ _ _ h => (by cases h), fun i => by rw [St.get_ge _ (Nat.zero_le i)]; rfl⟩
theorem arel_ints {W : World} {k1 k2 : IntKind} {a b : Int} : ARel (fun _ => none) ⟨[]⟩ W [.int k1 a, .int k2 b] #[.int k1 a, .int k2 b] := by
  refine ⟨rfl, fun j x hx => ?_⟩
  match j with
  | 0 => cases hx; exact .int _ _
  | 1 => cases hx; exact .int _ _
  | j + 2 => simp at hx

theorem pushMeta_walk {W : World} (hsh : W.ShapedOpen Tryz.prog) (h : laidMetH Tryz.prog laidL W) {n : Int} {t : Int} (hn : in64 n) (ht : 0 ≤ t ∧ t < 256) :
    Calls Tryz.prog 3 #[.int .i64 n, .int .u8 t] W fun e W' => e = .returned (.bool true) ∧ Below W.heap.size W W' := by
  obtain ⟨G, hE⟩ := glob_W hsh h
  have e : ((UInt8.ofNat t.toNat).toNat : Int) = t := by
    have : (UInt8.ofNat t.toNat).toNat = t.toNat % 256 := rfl
    omega
  have hw := law12_PushMeta G hE (S := ⟨[]⟩) (n := n) (typ := UInt8.ofNat t.toNat) hn
  rw [e] at hw
  refine (hw _ W _ (srel_start W) arel_ints).mono ?_
  rintro ev W' ⟨r, v, ρ', S', rfl, hv, hs, _, _, rfl⟩
  cases hv
  exact ⟨rfl, hs.below⟩

set_option maxRecDepth 100000 in
theorem pushMeta_lifted (os : Os) (started : os.Started) (H : Type) (enc : TypeId × Value → H) :
    ReturnsInHanded {} Tryz.checked os 3 .any (fun w args => (Rows.pushMetaSpec.pre enc Tryz.prog Tryz.f3 [] false w args ∧ laidMetH Tryz.prog laidL w) ∧ sizedMet enc Tryz.prog Tryz.f3 (OpenSpec.ofChange Rows.pushMetaSpec) false w args)
      (Rows.pushMetaSpec.post enc Tryz.prog Tryz.f3 false true false false) := by
  refine handed_shaped (C := Tryz.checked) (X := fun w _ => laidMetH Tryz.prog laidL w) (fun _ _ _ hh h => h.of_heap hh) own0 started (by kernel_rfl) Tryz.func3
    (ChangeSpec.witness_at (enc := enc) (C := Tryz.checked) (os := os) (X := fun w _ => laidMetH Tryz.prog laidL w) false (laidWorld os) #[.int .i64 0, .int .u8 0] 8 rfl (by kernel_rfl) (by kernel_rfl) (by kernel_rfl) (by kernel_rfl) (by kernel_rfl) (laid_met os _)) ?_
  intro W base args ds gs before hval0 hW _ hL hsh
  have hval : ∀ (j : Nat) t v, Tryz.f3.params[j]? = some t → args[j]? = some v → Value.okWide Tryz.prog W .any base t v := hval0
  have hW' := hW
  obtain ⟨p, q, hA0, hV0, rfl, hfz, hnd⟩ := hW
  have hA : DataW.TrodAll enc Tryz.prog W 0 (fun _ => true) true Tryz.f3.params.toList args.toList ds p := hA0
  have hV : DataW.TrodVars enc Tryz.prog W (fun _ => true) [] gs q := hV0
  rw [Tryz.params3] at hA hval
  obtain ⟨v0, v1, d0, d1, p0, p1, rfl, rfl, rfl, h0, h1⟩ := trodAll_two hA
  obtain ⟨n, rfl, rfl, rfl, wn⟩ := open_int Tryz.underlying2 (hval 0 2 v0 rfl rfl) h0
  obtain ⟨t, rfl, rfl, rfl, wt⟩ := open_int Tryz.underlying5 (hval 1 5 v1 rfl rfl) h1
  obtain ⟨rfl, rfl⟩ : gs = [] ∧ q = [] := by
    cases gs with
    | nil => exact ⟨rfl, hV⟩
    | cons g r => exact absurd hV (by intro h; cases h)
  have hn : in64 n := by
    have e1 : IntKind.i64.min = -9223372036854775808 := rfl
    have e2 : IntKind.i64.max = 9223372036854775807 := rfl
    simp only [Lit.wf, Bool.and_eq_true, decide_eq_true_eq, e1, e2] at wn
    exact wn
  have ht : 0 ≤ t ∧ t < 256 := by
    have e1 : IntKind.u8.min = 0 := rfl
    have e2 : IntKind.u8.max = 255 := rfl
    simp only [Lit.wf, Bool.and_eq_true, decide_eq_true_eq, e1, e2] at wt
    omega
  have e1 : Rows.pushMetaSpec.fn H ([.lit (.int .i64 n), .lit (.int .u8 t)] ++ []) = { results := [.lit (.bool true)], args := [.lit (.int .i64 n), .lit (.int .u8 t)] } := by simp [Rows.pushMetaSpec]
  refine (pushMeta_walk hsh hL hn ht).mono fun e W' ⟨he, hb⟩ => ?_
  subst he
  refine ⟨_, rfl, _, _, _, [], [], [], hW', ?_, ?_, ?_, hb.frame _, fun h => by cases h⟩
  · rw [e1]; exact trodAll_mk1 (shut_bool Tryz.underlying4 true)
  · rw [e1]; exact trodAll_mk2 (shut_int Tryz.underlying2 wn) (shut_int Tryz.underlying5 wt)
  · rw [e1]; rfl
theorem pushMeta_holds : Rows.PushMetaSaid :=
  OpenClaim.holds_of_wide 3 Tryz.f3 rfl rfl rfl rfl rfl rfl rfl ⟨rfl, rfl, rfl, rfl, rfl⟩ rfl rfl rfl rfl rfl (by kernel_rfl) Tryz.func3 (by kernel_rfl)
    (of_decide_eq_true (by kernel_rfl)) (by unfold Func.isWrapper; rw [if_neg (of_decide_eq_false (by kernel_rfl))]; exact ⟨rfl, rfl⟩)
    (fun os started H enc _ => pushMeta_lifted os started H enc)
end Go.Proofs.YtnfiihdebonadaaGreatDoor.Abs
