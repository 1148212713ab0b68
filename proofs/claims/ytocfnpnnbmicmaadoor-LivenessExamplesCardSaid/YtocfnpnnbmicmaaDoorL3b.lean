/- LivenessExamples: the row, the card. -/
import Derived.Test.YtocfnpnnbmicmaaDoorL3
import Derived.Test.YtocfnpnnbmicmaaDoorEx33
import Derived.Deep.DeepWitnessRowRef
set_option maxRecDepth 100000
namespace Go.Proofs.YtocfnpnnbmicmaaDoor.LivenessExamples
open Go Go.ChangeShapes Go.WideShapes Go.ChangeAt Go.RowKit Tc

theorem contract (H : Type) (enc : TypeId × Value → H) (W : World) (args : Array Value) (ds gs : List (DataW H)) (before : List MemPlace)
    (hW : DataW.Whole enc Tryd.prog Tryd.f3.params.toList Rows.livenessExamplesSpec.vars false W args.toList ds gs before) (hL : laidMetH Tryd.prog Rows.livenessExamplesRow.laid W) :
    Calls Tryd.prog 3 args W fun e W' => ∃ v, e = .returned v ∧ Rows.livenessExamplesSpec.post enc Tryd.prog Tryd.f3 false true false false W args v W' := by
  have hW' := hW
  obtain ⟨p, q, hA0, hV, rfl, hfz, hnd⟩ := hW
  have hA : DataW.TrodAll enc Tryd.prog W 0 (fun _ => true) true Tryd.f3.params.toList args.toList ds p := hA0
  rw [Tryd.params3] at hA
  obtain ⟨hargs, rfl, rfl⟩ := trodAll_nil hA
  obtain rfl : args = #[] := by cases args; simp_all
  obtain ⟨rfl, rfl⟩ := trodVars_none hV
  refine (c_law33_LivenessExamples 100 true ex33 [] W #[] (table_holds hL) ⟨rfl, fun j T h => by simp at h⟩).mono ?_
  rintro e W' ⟨v, _, rfl, _, hle, hv⟩
  have hv' : v = .bool true := hv
  subst hv'
  exact ⟨_, rfl, post_kept (pa := []) (pv := []) hW' (fun _ _ _ => trodAll_cons_mk (shut_bool Tryd.underlying4 _) trodAll_mk0) (fun _ _ => trodAll_mk0) (fun _ _ => rfl) rfl hle (ok_one (by kernel_rfl) rfl (okWide_bool_mk Tryd.underlying4 _))⟩

theorem reads (os : Os) {H : Type} (enc : TypeId × Value → H) : ∃ places, DataW.whole enc Tryd.prog ((tabWorld os).forCall (fun _ _ => 0) ⟨#[], #[], []⟩).memory Tryd.f3.params.toList Rows.livenessExamplesSpec.vars false #[].toList 8 = some ([], [], places) :=
  ⟨[], by kernel_rfl⟩
theorem lifted (os : Os) (started : os.Started) (H : Type) (enc : TypeId × Value → H) (F : Stop.Interp) :
    ReturnsInHanded {} Tryd.checked os 3 .any ((OpenSpec.ofChange Rows.livenessExamplesSpec).preRow enc Tryd.prog Tryd.f3 Rows.livenessExamplesRow.domain false Rows.livenessExamplesRow.laid) (((OpenSpec.ofChange Rows.livenessExamplesSpec).at F).post enc Tryd.prog Tryd.f3 false true false false) := by
  obtain ⟨places, hx⟩ := reads os enc
  refine returnsInHanded_of_row (C := Tryd.checked) (s := OpenSpec.ofChange Rows.livenessExamplesSpec) ownK started (by kernel_rfl) Tryd.func3
    (witness_row_atRef (enc := enc) (C := Tryd.checked) false (tabWorld os) #[] rfl (by kernel_rfl) (by kernel_rfl) (by kernel_rfl)
      (OpenSpec.preRow_of_cond 8 hx (by kernel_rfl) (fun k hk => by cases hk) (by kernel_rfl) (tab_met os #[]))) ?_
  intro W base args ds gs before hval hW _ _ _ hL _ _
  exact contract H enc W args ds gs before hW hL
end Go.Proofs.YtocfnpnnbmicmaaDoor.LivenessExamples
