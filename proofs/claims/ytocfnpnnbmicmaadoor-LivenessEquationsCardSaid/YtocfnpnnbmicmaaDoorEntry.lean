/- From what a row says of the world to what the calculus asks, and back: the laid table, the arguments, the result. -/
import Derived.Test.YtocfnpnnbmicmaaDoorTypes
import Derived.Test.YtocfnpnnbmicmaaDoorRows
import Derived.OpenShut
import Derived.Lib.LaidTab
set_option linter.unusedVariables false
set_option linter.unusedSimpArgs false
namespace Go.Proofs.YtocfnpnnbmicmaaDoor.Tc
open Go Go.RowKit Go.ChangeShapes

section
variable {H : Type} {enc : TypeId × Value → H} {P : Program} {w : World} {base : Nat} {sp : Nat → Bool} {held : Bool}
theorem int_of_trod {fuel : Nat} {t : TypeId} {cs : List Value} {k : IntKind} {n : Int} {p : List MemPlace} (ht : P.underlying t = some (.int k)) (h : DataW.trod enc P w base sp held fuel t cs = some (.lit (.int k n), p)) : cs = [.int k n] := by
  cases fuel with
  | zero => simp [DataW.trod] at h
  | succ fuel =>
    unfold DataW.trod at h
    rw [ht] at h
    split at h <;> simp_all
theorem bool_of_trod {fuel : Nat} {t : TypeId} {cs : List Value} {b : Bool} {p : List MemPlace} (ht : P.underlying t = some .bool) (h : DataW.trod enc P w base sp held fuel t cs = some (.lit (.bool b), p)) : cs = [.bool b] := by
  cases fuel with
  | zero => simp [DataW.trod] at h
  | succ fuel =>
    unfold DataW.trod at h
    rw [ht] at h
    split at h <;> simp_all
theorem str_of_trod {fuel : Nat} {t : TypeId} {cs : List Value} {s : ByteArray} {p : List MemPlace} (ht : P.underlying t = some .string) (h : DataW.trod enc P w base sp held fuel t cs = some (.lit (.string s.data.toList), p)) : cs = [.string s] := by
  cases fuel with
  | zero => simp [DataW.trod] at h
  | succ fuel =>
    unfold DataW.trod at h
    rw [ht] at h
    split at h
    all_goals first
      | (simp_all; done)
      | skip
    rename_i s' heq
    split at h
    · simp only [Option.some.injEq, Prod.mk.injEq, DataW.lit.injEq, Lit.string.injEq] at h
      rw [ByteArray.ext (Array.ext' h.1)]
    · cases h
end

def opData {H : Type} (x : OpInfo) : DataW H := .agg [.lit (.string x.Name.data.toList), .lit (.int .i64 x.Form), .lit (.bool x.ReadsA), .lit (.bool x.WritesA), .lit (.bool x.ReadsB), .lit (.bool x.MayTrap), .lit (.int .i64 x.Words)]
def opCells (x : OpInfo) : List Value := [.string x.Name, .int .i64 x.Form, .bool x.ReadsA, .bool x.WritesA, .bool x.ReadsB, .bool x.MayTrap, .int .i64 x.Words]
theorem cells3 : Tryd.prog.cellsOf 3 = 1 := by kernel_rfl
theorem cells4 : Tryd.prog.cellsOf 4 = 1 := by kernel_rfl
theorem cells9 : Tryd.prog.cellsOf 9 = 1 := by kernel_rfl
theorem cells113 : Tryd.prog.cellsOf 113 = 7 := by kernel_rfl
theorem gTab : Tryd.prog.globalNamed "fulling/machine.table" = some 0 := by kernel_rfl
theorem gTabType : (Tryd.prog.globals[0]?).map (·.type) = some 162 := by kernel_rfl
theorem list7 {α : Type} {l : List α} (h : l.length = 7) : ∃ a b c d e f g, l = [a, b, c, d, e, f, g] := by
  match l, h with
  | [a, b, c, d, e, f, g], _ => exact ⟨a, b, c, d, e, f, g, rfl⟩

section
variable {H : Type} {enc : TypeId × Value → H} {w : World} {base : Nat} {sp : Nat → Bool} {held : Bool}
theorem op_cells {fuel : Nat} {cs : List Value} {x : OpInfo} {p : List MemPlace} (h : DataW.trod enc Tryd.prog w base sp held fuel 113 cs = some (opData x, p)) : cs = opCells x := by
  obtain ⟨xs, n, _, hx, hl, hxl, hf⟩ := DataW.trod_struct Tryd.underlying113 h
  rw [cells113] at hl
  obtain ⟨c0, c1, c2, c3, c4, c5, c6, rfl⟩ := list7 hl
  obtain ⟨y0, y1, y2, y3, y4, y5, y6, rfl⟩ := list7 (by simpa using hxl)
  simp only [opData, Prod.mk.injEq, DataW.agg.injEq, List.map_cons, List.map_nil, List.cons.injEq, and_true] at hx
  obtain ⟨⟨e0, e1, e2, e3, e4, e5, e6⟩, _⟩ := hx
  have f0 : DataW.trod enc Tryd.prog w base sp held n 9 (([c0, c1, c2, c3, c4, c5, c6].drop 0).take (Tryd.prog.cellsOf 9)) = [y0, y1, y2, y3, y4, y5, y6][0]? := hf 0 _ rfl
  have f1 : DataW.trod enc Tryd.prog w base sp held n 3 (([c0, c1, c2, c3, c4, c5, c6].drop 1).take (Tryd.prog.cellsOf 3)) = [y0, y1, y2, y3, y4, y5, y6][1]? := hf 1 _ rfl
  have f2 : DataW.trod enc Tryd.prog w base sp held n 4 (([c0, c1, c2, c3, c4, c5, c6].drop 2).take (Tryd.prog.cellsOf 4)) = [y0, y1, y2, y3, y4, y5, y6][2]? := hf 2 _ rfl
  have f3 : DataW.trod enc Tryd.prog w base sp held n 4 (([c0, c1, c2, c3, c4, c5, c6].drop 3).take (Tryd.prog.cellsOf 4)) = [y0, y1, y2, y3, y4, y5, y6][3]? := hf 3 _ rfl
  have f4 : DataW.trod enc Tryd.prog w base sp held n 4 (([c0, c1, c2, c3, c4, c5, c6].drop 4).take (Tryd.prog.cellsOf 4)) = [y0, y1, y2, y3, y4, y5, y6][4]? := hf 4 _ rfl
  have f5 : DataW.trod enc Tryd.prog w base sp held n 4 (([c0, c1, c2, c3, c4, c5, c6].drop 5).take (Tryd.prog.cellsOf 4)) = [y0, y1, y2, y3, y4, y5, y6][5]? := hf 5 _ rfl
  have f6 : DataW.trod enc Tryd.prog w base sp held n 3 (([c0, c1, c2, c3, c4, c5, c6].drop 6).take (Tryd.prog.cellsOf 3)) = [y0, y1, y2, y3, y4, y5, y6][6]? := hf 6 _ rfl
  simp only [cells3, cells4, cells9, List.drop_zero, List.drop_succ_cons, List.take_succ_cons, List.take_zero, List.getElem?_cons_zero, List.getElem?_cons_succ] at f0 f1 f2 f3 f4 f5 f6
  have g0 := str_of_trod (p := y0.2) Tryd.underlying9 (f0.trans (by rw [e0]))
  have g1 := int_of_trod (p := y1.2) Tryd.underlying3 (f1.trans (by rw [e1]))
  have g2 := bool_of_trod (p := y2.2) Tryd.underlying4 (f2.trans (by rw [e2]))
  have g3 := bool_of_trod (p := y3.2) Tryd.underlying4 (f3.trans (by rw [e3]))
  have g4 := bool_of_trod (p := y4.2) Tryd.underlying4 (f4.trans (by rw [e4]))
  have g5 := bool_of_trod (p := y5.2) Tryd.underlying4 (f5.trans (by rw [e5]))
  have g6 := int_of_trod (p := y6.2) Tryd.underlying3 (f6.trans (by rw [e6]))
  simp only [List.cons.injEq, and_true] at g0 g1 g2 g3 g4 g5 g6
  rw [g0, g1, g2, g3, g4, g5, g6]; rfl
theorem op_arr (M : Fb) (w : World) (x : OpInfo) (j : Nat) (t : Ty) (h : (OpInfo.ty x)[j]? = some t) : ∃ v, (opCells x)[j]? = some v ∧ v.oneCell' = true ∧ t.holds M w v := by
  match j with
  | 0 => cases h; exact ⟨_, rfl, rfl, rfl⟩
  | 1 => cases h; exact ⟨_, rfl, rfl, rfl⟩
  | 2 => cases h; exact ⟨_, rfl, rfl, rfl⟩
  | 3 => cases h; exact ⟨_, rfl, rfl, rfl⟩
  | 4 => cases h; exact ⟨_, rfl, rfl, rfl⟩
  | 5 => cases h; exact ⟨_, rfl, rfl, rfl⟩
  | 6 => cases h; exact ⟨_, rfl, rfl, rfl⟩
  | j + 7 => simp [OpInfo.ty] at h
end
theorem laid_is : Rows.laid_fulling_machine_table (H := Unit) = .slice (tableL.map opData) [] := by kernel_rfl

/-- What the row's list gives: the table stands there. -/
theorem table_holds {W : World} (h : laidMetH Tryd.prog [("fulling/machine.table", Rows.laid_fulling_machine_table)] W) : Holds glob [] W := by
  have h1 : laidMet Tryd.prog [("fulling/machine.table", Rows.laid_fulling_machine_table)] W := h
  obtain ⟨ps, ⟨g, t, cs, fuel, p, q, hg, ht, hv, htr, _, _⟩, _, _⟩ := h1
  obtain rfl : g = 0 := (Option.some.inj (gTab.symm.trans hg)).symm
  obtain rfl : t = 162 := (Option.some.inj (gTabType.symm.trans ht)).symm
  rw [laid_is] at htr
  rcases DataW.trod_slice Tryd.underlying162 htr with ⟨_, hx⟩ | ⟨a, len, cap, elems, rest, n, _, hcs, hx, _, hl, hm, hlen, hel, _⟩
  · cases hx
  simp only [Prod.mk.injEq, DataW.slice.injEq] at hx
  obtain ⟨⟨he, _⟩, _⟩ := hx
  have hll : tableL.length = len := by rw [← hlen]; simpa using congrArg List.length he
  have hcell : W.cell? ⟨0, 0, none⟩ = some (.slice (some a) len cap) := by
    have := World.var?_cell gTab hv 0
    rw [this]
    have : cs[0]? = cs.toList[0]? := by simp
    rw [this, hcs]; rfl
  refine ⟨fun it hi => (by cases hi), .nil, fun g t hgt => ?_⟩
  simp only [glob, List.mem_singleton, Prod.mk.injEq] at hgt
  obtain ⟨rfl, rfl⟩ := hgt
  intro j T hT
  match j with
  | j + 1 => simp at hT
  | 0 =>
    cases hT
    refine ⟨foot_nil _, _, by rw [add_zero]; exact hcell, rfl, some a, cap, by simp [hll], by simpa [hll] using hl, fun i es hi => ?_⟩
    simp only [List.getElem?_map, Option.map_eq_some_iff] at hi
    obtain ⟨x, hx, rfl⟩ := hi
    have hil : i < len := by rw [← hll]; exact (List.getElem?_eq_some_iff.1 hx).1
    have hE := hel i hil
    rw [cells113] at hE
    have hy : (elems.map (·.1))[i]? = some (opData x) := by rw [← he]; simp [hx]
    rw [List.getElem?_map] at hy
    obtain ⟨y, hy1, hy2⟩ := Option.map_eq_some_iff.1 hy
    rw [hy1] at hE
    obtain ⟨c, hc1, hc2⟩ := Option.bind_eq_some_iff.1 hE
    obtain ⟨_, hc3, hc4⟩ := World.cells?_some hc1
    have hcc : c = opCells x := op_cells (p := y.2) (by rw [hc2, ← hy2])
    refine ⟨rfl, a, rfl, fun j T hT => ⟨foot_nil _, ?_⟩⟩
    obtain ⟨v, hv1, hv2, hv3⟩ := op_arr (foot []) W x j T hT
    have hj : j < 7 := (List.getElem?_eq_some_iff.1 hv1).1
    exact ⟨v, by rw [hc4 j hj, hcc]; exact hv1, hv2, hv3⟩

/-- Nothing of old has changed. -/
theorem kept_of_le {W W' : World} (h : Le (foot ([] ++ [])) W (foot ([] ++ [])) W') (may : MemPlace → Prop) : W.keptBut W' may := by
  have hb : ∀ b, b < W.heap.size → W'.heap[b]? = W.heap[b]? := fun b hb => (h.block b hb (foot_nil b)).2
  refine ⟨h.os, h.output, fun i hi => ?_⟩
  rw [hb i hi]
  split <;> simp_all
theorem frozen_of_le {W W' : World} (h : Le (foot ([] ++ [])) W (foot ([] ++ [])) W') (b o : Nat) (hb : b < W.heap.size) : W'.frozen? ⟨b, o, none⟩ = W.frozen? ⟨b, o, none⟩ := by
  simp only [World.frozen?, (h.block b hb (foot_nil b)).2]
section
variable {H : Type} {enc : TypeId × Value → H} {P : Program}
/-- The answer of a law: the arguments read as they did, and nothing of old has changed. -/
theorem post_kept {f : Func} {s : ChangeSpec} {apart fresh handsOn again : Bool} {W W' : World} {args : Array Value} {v : Value} {ds gs : List (DataW H)} {before pa pv : List MemPlace}
    (hW : DataW.Whole enc P f.params.toList s.vars apart W args.toList ds gs before)
    (hres : ∀ (b : Nat) (sp : Nat → Bool) (hd : Bool), DataW.TrodAll enc P W' b sp hd f.resultTypes.toList (v.resultList f.resultTypes.size) (s.fn H (ds ++ gs)).results [])
    (hargs : ∀ sp : Nat → Bool, (∀ p ∈ before, sp p.block = true) → DataW.TrodAll enc P W' 0 sp true f.params.toList args.toList (s.fn H (ds ++ gs)).args pa)
    (hvars : ∀ sp : Nat → Bool, (∀ p ∈ before, sp p.block = true) → DataW.TrodVars enc P W' sp s.vars (s.fn H (ds ++ gs)).vars pv)
    (hps : before = pa ++ pv) (hle : Le (foot ([] ++ [])) W (foot ([] ++ [])) W')
    (hok : ∀ (j : Nat) (t : TypeId) (r : Value), f.resultTypes[j]? = some t → (v.resultList f.resultTypes.size)[j]? = some r → Value.okWide P W' .any 0 t r) :
    s.post enc P f apart fresh handsOn again W args v W' := by
  have hlt : ∀ p, p ∈ before → p.block < W.heap.size := fun p hp => hW.lt p hp
  refine ⟨ds, gs, before, [], pa, pv, hW, hres _ _ _, hargs _ (fun p hp => decide_eq_true (hlt p hp)), hvars _ (fun p hp => decide_eq_true (hlt p hp)), kept_of_le hle _, fun _ => ?_⟩
  obtain ⟨_, _, _, _, _, hz, hn⟩ := hW
  have he : [] ++ pa ++ pv = before := by rw [List.nil_append]; exact hps.symm
  refine ⟨hok, _, _, [] ++ pa ++ pv, ⟨[] ++ pa, pv, trodAll_append (hargs _ (fun _ _ => rfl)) (hres _ _ _), hvars _ (fun _ _ => rfl), rfl, ?_, ?_⟩, ?_⟩
  · intro b off hp
    rw [he] at hp
    rw [frozen_of_le hle b off (hlt _ hp)]
    exact hz b off hp
  · intro ha
    rw [he]; exact hn ha
  · intro p hp _
    rw [he] at hp; exact hp
end
end Go.Proofs.YtocfnpnnbmicmaaDoor.Tc
