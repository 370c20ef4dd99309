/- PROVED: for every int64 n and every byte typ the law pannierlaw12.PushMeta returns true, and both arguments read afterwards as they read before (the tied card PushMetaCardSaid). Conditions: none beyond the row's own: the variables that the row lists (errors.errorType, strconv.ErrSyntax, strconv.ErrRange, internal/strconv.uint64pow10, math/bits.deBruijn32tab, math/bits.deBruijn64tab) read when the call begins as the program's own text lays them. -/
import Derived.Test.YtnfiihdebonadaaGreatDoorZA2
set_option linter.unusedSimpArgs false
set_option linter.unusedVariables false
set_option linter.unusedSectionVars false
namespace Go.Proofs.YtnfiihdebonadaaGreatDoor
open Go
/-- The tied card of the law PushMeta. -/
theorem pushMeta_card_holds : Rows.PushMetaCardSaid :=
  Claim7.holds_tied_plain_at .later [] [.data, .data, .data, .handle, .sentinel, .sentinel] true (true, "c6494d8710b9756713dec3d2a43fdd7fe0443ee38e3f5ffcb140f4fae64048e8") true
    Go.Proofs.YtnfiihdebonadaaGreatDoor.Abs.pushMeta_holds (fun _ h => by cases h) (by kernel_rfl) (fun _ h => by cases h) pushMeta_row_tie rfl ⟨rfl, rfl⟩ (by kernel_rfl) rfl
    (fun f fn hf hfn => by
      obtain rfl : f = 3 := Option.some.inj ((show Tryz.prog.funcNamed "pannier/pannierlaw12.PushMeta" = some 3 by kernel_rfl).symm.trans hf) |>.symm
      obtain rfl : fn = Tryz.f3 := (Option.some.inj (Tryz.func3.symm.trans hfn)).symm
      exact ⟨by kernel_rfl, fun j t ht => by
        rw [Tryz.params3] at ht
        have h3 : t = 2 ∨ t = 5 := by
          rcases j with _ | _ | j
          · exact .inl (by simpa using ht.symm)
          · exact .inr (by simpa using ht.symm)
          · simp at ht
        rcases h3 with rfl | rfl
        · exact (show Tryz.prog.wantsStandIn 2 = false by kernel_rfl)
        · exact (show Tryz.prog.wantsStandIn 5 = false by kernel_rfl)⟩)
    (by kernel_rfl)
end Go.Proofs.YtnfiihdebonadaaGreatDoor
