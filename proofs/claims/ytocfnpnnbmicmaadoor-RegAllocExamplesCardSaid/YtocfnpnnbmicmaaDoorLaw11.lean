/- RegAllocExamples: the row and the card. WHATEVER THE INPUT: the law answers true, and each argument reads behind the call as it read before. -/
import Derived.Test.YtocfnpnnbmicmaaDoorEx11
import Derived.Test.YtocfnpnnbmicmaaDoorArgs
import Derived.Test.YtocfnpnnbmicmaaDoorWit
import Derived.Test.YtocfnpnnbmicmaaDoorCards
import Derived.Test.YtocfnpnnbmicmaaDoorTie
import Derived.ProofKit
import Derived.LaidMore
import Derived.Deep.DeepHandedRow
import Derived.Deep.DeepWitnessRowRef
set_option maxRecDepth 100000
set_option linter.unusedVariables false
namespace Go.Proofs.YtocfnpnnbmicmaaDoor.RegAllocExamples
open Go Go.ChangeShapes Go.WideShapes Go.ChangeAt Go.RowKit Tc

theorem contract (H : Type) (enc : TypeId × Value → H) (W : World) (base : Nat) (args : Array Value) (ds gs : List (DataW H)) (before : List MemPlace)
    (hval : ∀ (j : Nat) t v, Tryd.f11.params[j]? = some t → args[j]? = some v → Value.okWide Tryd.prog W .any base t v) (hW : DataW.Whole enc Tryd.prog Tryd.f11.params.toList Rows.regAllocExamplesSpec.vars false W args.toList ds gs before)
    (hz : (DataW.weightsEach Tryd.prog (Tryd.f11.params.toList ++ (OpenSpec.ofChange Rows.regAllocExamplesSpec).bare.plain.varTypes Tryd.prog) (ds ++ gs)).all (· ≤ reachBytes) = true) (hL : laidMetH Tryd.prog Rows.regAllocExamplesRow.laid W) :
    Calls Tryd.prog 11 args W fun e W' => ∃ v, e = .returned v ∧ Rows.regAllocExamplesSpec.post enc Tryd.prog Tryd.f11 false true false false W args v W' := by
  have hW' := hW
  obtain ⟨p, q, hA0, hV, rfl, hfz, hnd⟩ := hW
  have hA : DataW.TrodAll enc Tryd.prog W 0 (fun _ => true) true Tryd.f11.params.toList args.toList ds p := hA0
  rw [Tryd.params11] at hA
  obtain ⟨hargs, rfl, rfl⟩ := trodAll_nil hA
  obtain rfl : args = #[] := by cases args; simp_all
  obtain ⟨rfl, rfl⟩ := trodVars_none hV
  obtain ⟨K, hF⟩ := pure11
  refine (c_law34_RegAllocExamples K true hF [] W #[] (table_holds hL) ⟨rfl, fun j T hT => ?_⟩).mono ?_
  · match j with
    | j => simp at hT
  · rintro e W' ⟨v, _, rfl, _, hle, hv⟩
    have hv' : v = .bool true := hv
    subst hv'
    exact ⟨_, rfl, post_kept (pv := []) hW' (fun _ _ _ => trodAll_cons_mk (shut_bool Tryd.underlying4 _) trodAll_mk0) (fun sp hs => trodAll_mk0) (fun _ _ => rfl) (by simp) hle (ok_one (by kernel_rfl) rfl (okWide_bool_mk Tryd.underlying4 _))⟩

theorem reads (os : Os) {H : Type} (enc : TypeId × Value → H) : ∃ places, DataW.whole enc Tryd.prog ((tabWorld os).forCall (fun _ _ => 0) ⟨#[], #[], []⟩).memory Tryd.f11.params.toList Rows.regAllocExamplesSpec.vars false (#[] : Array Value).toList 8 = some ([], [], places) :=
  ⟨[], by kernel_rfl⟩
theorem lifted (os : Os) (started : os.Started) (H : Type) (enc : TypeId × Value → H) (F : Stop.Interp) :
    ReturnsInHanded {} Tryd.checked os 11 .any ((OpenSpec.ofChange Rows.regAllocExamplesSpec).preRow enc Tryd.prog Tryd.f11 Rows.regAllocExamplesRow.domain false Rows.regAllocExamplesRow.laid) (((OpenSpec.ofChange Rows.regAllocExamplesSpec).at F).post enc Tryd.prog Tryd.f11 false true false false) := by
  obtain ⟨places, hx⟩ := reads os enc
  refine returnsInHanded_of_row (C := Tryd.checked) (s := OpenSpec.ofChange Rows.regAllocExamplesSpec) ownK started (by kernel_rfl) Tryd.func11
    (witness_row_atRef (enc := enc) (C := Tryd.checked) false (tabWorld os) #[] rfl (by kernel_rfl) (by kernel_rfl) (by kernel_rfl)
      (OpenSpec.preRow_of_cond 8 hx (by kernel_rfl) (fun k hk => by cases hk) (by kernel_rfl) (tab_met os #[]))) ?_
  intro W base args ds gs before hval hW _ _ hz hL _ _
  exact contract H enc W base args ds gs before hval hW hz hL
theorem closed : joinedFacts Tryd.pinned.checked.prog 11 Tryd.f11 (OpenSpec.ofChange Rows.regAllocExamplesSpec).bare Rows.regAllocExamplesRow = true :=
  Closed.closed_of (by kernel_rfl) (by kernel_rfl) (by kernel_rfl) (by kernel_rfl) (by kernel_rfl) (by kernel_rfl) (by kernel_rfl) (by kernel_rfl) (by kernel_rfl) (by kernel_rfl) (by kernel_rfl) (by kernel_rfl) (by kernel_rfl) (by kernel_rfl) (by kernel_rfl) (by kernel_rfl) (by kernel_rfl) (by kernel_rfl) rfl (by kernel_rfl) rfl rfl (by kernel_rfl) (by kernel_rfl) (by kernel_rfl) (by kernel_rfl)
theorem wr : Tryd.f11.isWrapper Tryd.pinned.checked.prog Rows.regAllocExamplesRow.wrapper Rows.regAllocExamplesRow.mainSum := by
  unfold Func.isWrapper
  rw [if_neg (by decide +kernel)]
  exact ⟨rfl, rfl⟩
theorem said : Rows.RegAllocExamplesSaid :=
  OpenClaim.holds_of_cond 11 Tryd.f11 rfl rfl rfl rfl rfl rfl rfl ⟨rfl, rfl, rfl, rfl, rfl⟩ rfl rfl rfl rfl rfl (by kernel_rfl) Tryd.func11 closed
    (of_decide_eq_true (by kernel_rfl)) wr
    (fun os started H enc _ F => by rw [OpenClaim.pre_eq_preRow]; exact lifted os started H enc F)
theorem plain (f : FuncId) (fn : Func) (hf : Tryd.pinned.checked.prog.funcNamed "fulling/fullinglaw34.RegAllocExamples" = some f) (hfn : Tryd.pinned.checked.prog.funcs[f]? = some fn) :
    false = Tryd.pinned.checked.prog.looks [] ∧ ∀ (j : Nat) t, fn.params[j]? = some t → Tryd.pinned.checked.prog.wantsStandIn t = false := by
  obtain rfl : f = 11 := Option.some.inj ((show Tryd.prog.funcNamed "fulling/fullinglaw34.RegAllocExamples" = some 11 by kernel_rfl).symm.trans hf) |>.symm
  obtain rfl : fn = Tryd.f11 := (Option.some.inj (Tryd.func11.symm.trans hfn)).symm
  refine ⟨by kernel_rfl, fun j t ht => ?_⟩
  rw [Tryd.params11] at ht
  simp at ht
theorem card : Rows.RegAllocExamplesCardSaid :=
  Claim7.holds_tied_plain_at .later [] _ _ _ _ said (fun _ h => by cases h) (by kernel_rfl) (fun _ h => by cases h) regAllocExamples_row_tie rfl ⟨rfl, rfl⟩ (Closed.main_of _ rfl (by kernel_rfl)) rfl plain (by kernel_rfl)
#print axioms card
end Go.Proofs.YtocfnpnnbmicmaaDoor.RegAllocExamples
