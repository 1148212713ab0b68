/- LivenessExamples: the row and the card. -/
import Derived.Test.YtocfnpnnbmicmaaDoorL3b
import Derived.Test.YtocfnpnnbmicmaaDoorClosed
set_option maxRecDepth 100000
namespace Go.Proofs.YtocfnpnnbmicmaaDoor.LivenessExamples
open Go Go.ChangeShapes Go.WideShapes Go.ChangeAt Go.RowKit Tc
theorem closed : joinedFacts Tryd.pinned.checked.prog 3 Tryd.f3 (OpenSpec.ofChange Rows.livenessExamplesSpec).bare Rows.livenessExamplesRow = true :=
  Closed.closed_of (by kernel_rfl) (by kernel_rfl) (by kernel_rfl) (by kernel_rfl) (by kernel_rfl) (by kernel_rfl) (by kernel_rfl) (by kernel_rfl) (by kernel_rfl) (by kernel_rfl) (by kernel_rfl) (by kernel_rfl) (by kernel_rfl) (by kernel_rfl) (by kernel_rfl) (by kernel_rfl) (by kernel_rfl) (by kernel_rfl) rfl (by kernel_rfl) rfl rfl (by kernel_rfl) (by kernel_rfl) (by kernel_rfl) (by kernel_rfl)
theorem wr : Tryd.f3.isWrapper Tryd.pinned.checked.prog Rows.livenessExamplesRow.wrapper Rows.livenessExamplesRow.mainSum := by
  unfold Func.isWrapper
  rw [if_neg (by decide +kernel)]
  exact ⟨rfl, rfl⟩
theorem said : Rows.LivenessExamplesSaid :=
  OpenClaim.holds_of_cond 3 Tryd.f3 rfl rfl rfl rfl rfl rfl rfl ⟨rfl, rfl, rfl, rfl, rfl⟩ rfl rfl rfl rfl rfl (by kernel_rfl) Tryd.func3 closed
    (of_decide_eq_true (by kernel_rfl)) wr
    (fun os started H enc _ F => by rw [OpenClaim.pre_eq_preRow]; exact lifted os started H enc F)
theorem plain (f : FuncId) (fn : Func) (hf : Tryd.pinned.checked.prog.funcNamed "fulling/fullinglaw33.LivenessExamples" = some f) (hfn : Tryd.pinned.checked.prog.funcs[f]? = some fn) :
    false = Tryd.pinned.checked.prog.looks [] ∧ ∀ (j : Nat) t, fn.params[j]? = some t → Tryd.pinned.checked.prog.wantsStandIn t = false := by
  obtain rfl : f = 3 := Option.some.inj ((show Tryd.prog.funcNamed "fulling/fullinglaw33.LivenessExamples" = some 3 by kernel_rfl).symm.trans hf) |>.symm
  obtain rfl : fn = Tryd.f3 := (Option.some.inj (Tryd.func3.symm.trans hfn)).symm
  refine ⟨by kernel_rfl, fun j t ht => ?_⟩
  rw [Tryd.params3] at ht
  simp at ht
theorem card : Rows.LivenessExamplesCardSaid :=
  Claim7.holds_tied_plain_at .later [] _ _ _ _ said (fun _ h => by cases h) (by kernel_rfl) (fun _ h => by cases h) livenessExamples_row_tie rfl ⟨rfl, rfl⟩ (Closed.main_of _ rfl (by kernel_rfl)) rfl plain (by kernel_rfl)
#print axioms card
end Go.Proofs.YtocfnpnnbmicmaaDoor.LivenessExamples
