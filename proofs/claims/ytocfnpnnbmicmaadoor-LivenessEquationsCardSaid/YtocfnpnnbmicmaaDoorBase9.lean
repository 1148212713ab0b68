/- The typing calculus: struct and slice literals, variables of the program, function values, equality of structs, booleans. -/
import Derived.Test.YtocfnpnnbmicmaaDoorBase8
set_option linter.unusedVariables false
set_option linter.unusedSimpArgs false
namespace Go.Proofs.YtocfnpnnbmicmaaDoor.Tc
open Go Go.RowKit

theorem fold_get (off : Nat) : ∀ (vs : List Value) (k : Nat) (cs : Array Value), off + k + vs.length ≤ cs.size →
    ((vs.zipIdx k).foldl (fun cs (p : Value × Nat) => cs.setIfInBounds (off + p.2) p.1) cs).size = cs.size ∧
    ∀ j, ((vs.zipIdx k).foldl (fun cs (p : Value × Nat) => cs.setIfInBounds (off + p.2) p.1) cs)[j]? = if j < off + k then cs[j]? else if j < off + k + vs.length then vs[j - (off + k)]? else cs[j]?
  | [], k, cs, _ => ⟨rfl, fun j => by simp; omega⟩
  | v :: vs, k, cs, h => by
    simp only [List.length_cons] at h
    obtain ⟨h1, h2⟩ := fold_get off vs (k + 1) (cs.setIfInBounds (off + k) v) (by simp; omega)
    simp only [List.zipIdx_cons, List.foldl_cons]
    refine ⟨by rw [h1]; simp, fun j => ?_⟩
    rw [h2 j]
    simp only [List.length_cons]
    by_cases h3 : j < off + k
    · rw [if_pos (by omega), if_pos h3, Array.getElem?_setIfInBounds_ne (by omega)]
    · rw [if_neg h3]
      by_cases h4 : j = off + k
      · subst h4
        rw [if_pos (by omega), if_pos (by omega)]
        rw [Array.getElem?_setIfInBounds_self_of_lt (by omega)]
        simp
      · rw [if_neg (by omega)]
        by_cases h5 : j < off + k + (vs.length + 1)
        · rw [if_pos (by omega), if_pos h5]
          rw [show j - (off + k) = (j - (off + (k + 1))) + 1 by omega]
          simp
        · rw [if_neg (by omega), if_neg h5, Array.getElem?_setIfInBounds_ne (by omega)]
theorem arr_fold {ts ps : List Ty} {M : Fb} {w : World} {cs vs : Array Value} {off : Nat} (hc : ArrAt ts M w cs) (hv : ArrAt ps M w vs) (h : off + ps.length ≤ ts.length) :
    ArrAt (over ts off ps) M w (vs.zipIdx.foldl (fun cs (p : Value × Nat) => cs.setIfInBounds (off + p.2) p.1) cs) := by
  have e : vs.zipIdx.foldl (fun cs (p : Value × Nat) => cs.setIfInBounds (off + p.2) p.1) cs = (vs.toList.zipIdx 0).foldl (fun cs (p : Value × Nat) => cs.setIfInBounds (off + p.2) p.1) cs := by
    rw [← Array.foldl_toList]; simp
  have h1 := hc.1
  have h2 := hv.1
  obtain ⟨h3, h4⟩ := fold_get off vs.toList 0 cs (by simp; omega)
  rw [e]
  refine ⟨by rw [h3, over_length _ _ _ h, h1], fun j t ht => ?_⟩
  rw [over_get _ _ _ h] at ht
  rw [h4]
  simp only [Nat.add_zero, Array.length_toList, h2, Array.getElem?_toList]
  split at ht
  · rename_i hj; rw [if_pos hj]; exact hc.2 j t ht
  · rename_i hj
    rw [if_neg hj]
    split at ht
    · rename_i hj2; rw [if_pos hj2]; exact hv.2 _ t ht
    · rename_i hj2; rw [if_neg hj2]; exact hc.2 j t ht

/-- The literal's parts, one by one. -/
def Fill (Γ : Cx) (place : Nat → Option (Nat × Nat)) : List (Nat × Operand) → List Ty → List Ty → Prop
  | [], ts, us => us = ts
  | (i, x) :: r, ts, us => ∃ T ps off, opTy Γ x = some T ∧ PartTy T ps ∧ place i = some (off, ps.length) ∧ Nat.ble (off + ps.length) ts.length = true ∧ Fill Γ place r (over ts off ps) us
theorem fill_run {Γ : Cx} {L : List Item} {a : Act} {w : World} {place : Nat → Option (Nat × Nat)} (he : EnvOk Γ L a.tmps w) : ∀ (parts : List (Nat × Operand)) (ts us : List Ty) (cs : Array Value), ArrAt ts (foot L) w cs → Fill Γ place parts ts us →
    ∃ cs', Instr.fill place cs (parts.map fun p => (p.1, a.eval p.2)) = some cs' ∧ ArrAt us (foot L) w cs'
  | [], ts, us, cs, hc, hf => by
    have hf' : us = ts := hf
    subst hf'; exact ⟨cs, rfl, hc⟩
  | (i, x) :: r, ts, us, cs, hc, hf => by
    obtain ⟨T, ps, off, h1, h2, h3, h4, h5⟩ := hf
    have h4' := Nat.le_of_ble_eq_true h4
    have hv := h2 _ _ _ (opTy_holds he h1)
    obtain ⟨cs', h6, h7⟩ := fill_run he r _ us _ (arr_fold hc hv h4') h5
    refine ⟨cs', ?_, h7⟩
    simp only [List.map_cons, Instr.fill, h3]
    rw [if_neg (by simp only [hv.1, hc.1, bne_self_eq_false, ne_eq, not_true_eq_false, decide_false, Bool.false_or, decide_eq_true_eq]; omega)]
    exact h6

section
variable {κ : Kx} {Q : Post} {Γ : Cx} {L : List Item} {ops : Array Oper} {rest : List Oper}
variable {dst : Option Nat} {ty : TypeId} {pos : String} {after : Array Edge} {gd : Option (Nat × Bool)}

theorem does_build {t : TypeId} {z : Value} {fs : Array Field} {places : List (Nat × Nat)} {parts : Array (Nat × Operand)} (us : List Ty) (hz : ∀ w, (zeroValue t).run κ.P w = .ok z w) (hu : κ.P.underlying t = some (.struct fs)) (hp : fs.toList.mapM (fun f => (κ.P.info? f.type).map fun i => (f.offset, i.size)) = some places)
    (h1 : z.cells.toList.all Value.oneCell' = true) (hf : Fill Γ (fun i => places[i]?) parts.toList (z.cells.toList.map Ty.val) us) : Does κ ⟨dst, .build t parts, ty, pos, after, gd⟩ Γ L (Ty.agg us) :=
  does_of_run fun L' a w _ _ he => by
    obtain ⟨cs, h2, h3⟩ := fill_run he parts.toList _ us z.cells (by have := arr_vals (M := foot L') (w := w) z.cells.toList h1; simpa using this) hf
    have h4 : Instr.fill (fun i => places.toArray[i]?) z.cells (parts.toList.map fun p => (p.1, a.eval p.2)) = some cs := by simpa using h2
    exact ⟨.agg cs, by simp [execOp, Instr.build, run_underlying hu, hz, Array.mapM_eq_mapM_toList, run_places w _ _ hp, h2], cs, rfl, h3⟩

theorem repl_map {α β : Type} (n : Nat) (l : List α) (g : α → β) : ((List.replicate n l).flatten).map g = (List.replicate n (l.map g)).flatten := by
  induction n with
  | zero => rfl
  | succ n ih => simp [List.replicate_succ, ih]
/-- A slice literal: a new row that is only read from here on. -/
theorem does_buildSlice {α : Type} {sz bytes : Nat} {f : α → List Ty} {t e : TypeId} {z : Value} {parts : Array (Nat × Operand)} {len : Nat} (l : List α) (us : List Ty) (hE : ElTy κ.P t e z sz bytes) (hlen : l.length = len) (hbig : Nat.ble (len * sz) 16777216 = true)
    (h1 : z.cells.toList.all Value.oneCell' = true) (hf : Fill Γ (fun i => some (i * sz, sz)) parts.toList ((List.replicate len (z.cells.toList.map Ty.val)).flatten) us) (hus : us = (l.map f).flatten) (hfl : ∀ y, (f y).length = sz) :
    Does κ ⟨dst, .buildSlice t len parts, ty, pos, after, gd⟩ Γ L (tL sz f l) := fun L' a w hs hh he K Q hk => by
  obtain ⟨i, hi1, hi2, hi3, hi4⟩ := hE.info
  have hzc : z.cells.size = sz := hE.zc
  have harr : ArrAt ((List.replicate len (z.cells.toList.map Ty.val)).flatten) (foot L') w ((Array.range (len * sz)).map (fun x => z.cells[x % z.cells.size]!)) := by
    refine ⟨by simp [hzc], fun j T hT => ?_⟩
    have hlt : j < len * sz := by have := (List.getElem?_eq_some_iff.1 hT).1; simpa [hzc] using this
    have hel := els_flat (sz := sz) (ess := List.replicate len (z.cells.toList.map Ty.val)) (fun es hes => by rw [List.eq_of_mem_replicate hes]; simpa using hzc) (j / sz) (j % sz) (Nat.mod_lt _ hE.pos)
    rw [Nat.div_add_mod' j sz, hT] at hel
    have hdl : j / sz < len := (Nat.div_lt_iff_lt_mul hE.pos).2 hlt
    simp only [List.getElem?_replicate, hdl, if_true, Option.bind_some, List.getElem?_map] at hel
    obtain ⟨v, hv, hT'⟩ := Option.map_eq_some_iff.1 hel.symm
    subst hT'
    refine ⟨v, ?_, List.all_eq_true.1 h1 v (List.mem_of_getElem? hv), rfl⟩
    have hv' : z.cells[j % sz]? = some v := by simpa using hv
    simp [hlt, hzc, getElem!_def, hv']
  obtain ⟨cs, h2, h3⟩ := fill_run he parts.toList _ us _ harr hf
  have hrun : (Instr.buildSlice t len (parts.map fun p => (p.1, a.eval p.2))).run κ.P w = .ok (.slice (some ⟨w.heap.size, 0, none⟩) len len) (w.alloc (.cells cs e)) := by
    have hb := Nat.le_of_ble_eq_true hbig
    have hb' : ¬ (len * sz > 16777216) := by omega
    by_cases h0 : len * sz = 0
    · have h2' := h2
      have hr0 : ∀ g : Nat → Value, (Array.range 0).map g = #[] := fun g => by simp
      simp only [h0, hr0] at h2'
      simp [Instr.buildSlice, run_underlying hE.sl, hE.run, h0, newRow, hr0, h2']
    · simp [Instr.buildSlice, run_underlying hE.sl, hE.run, hb', h0, zeroValue, typeInfo, hi1, hi2, newRow, h2]
  have hnew := hh.new (i' := Item.row (.slice (some ⟨w.heap.size, 0, none⟩) len len) e sz (l.map f)) (w' := w.alloc (.cells cs e)) (by simp) rfl rfl rfl (fun b hb => Below.heap_alloc w _ b hb)
    (fun b hb => by have hb' : (Value.slice (some ⟨w.heap.size, 0, none⟩) len len).ownBlock = some b := hb; simp only [Value.ownBlock, Option.some.injEq] at hb'; omega)
    (fun M hl _ _ => by
      have hb := Nat.le_of_ble_eq_true hbig
      have hle : len ≤ len * sz := Nat.le_mul_of_pos_right _ hE.pos
      refine .inr ⟨w.heap.size, len, cs, by simp [hlen], heap_alloc_new w _, by simp [hlen], by simp only [maxLen]; omega, ?_, ?_⟩
      · rw [h3.1, hus, flat_len (sz := sz) (fun es hes => by obtain ⟨y, _, rfl⟩ := List.mem_map.1 hes; exact hfl y)]; simp [hlen]
      · refine arr_els (fun es hes => by obtain ⟨y, _, rfl⟩ := List.mem_map.1 hes; exact hfl y) fun j T hT => ?_
        rw [← hus] at hT
        obtain ⟨u, hu, hu1, hu2⟩ := h3.2 j T hT
        exact ⟨u, hu, hu1, T.mono hu2 hl⟩)
  obtain ⟨h5, h6, h7⟩ := erase_facts hnew.1 (n := 0) rfl
  have hrow : RowAt (.slice (some ⟨w.heap.size, 0, none⟩) len len) e sz (l.map f) (foot (Item.row (.slice (some ⟨w.heap.size, 0, none⟩) len len) e sz (l.map f) :: L')) (w.alloc (.cells cs e)) := hnew.1.each (Item.row _ e sz (l.map f)) (by simp)
  unfold Oper.wp
  have hex : (execOp a.eval ⟨dst, .buildSlice t len parts, ty, pos, after, gd⟩).run κ.P w = .ok (.value (.slice (some ⟨w.heap.size, 0, none⟩) len len)) (w.alloc (.cells cs e)) := by
    simp only [execOp]; simp [hrun]
  rw [hex]
  exact hk _ _ h5 (hnew.2.trans h6) (row_slice hrow h6 (fun b hb => h7 b hb))

/-- A variable of the program that is known. -/
theorem does_loadG {t : TypeId} {g : Nat} {T : Ty} (hag : ∀ w, (isAgg t).run κ.P w = .ok false w) (hg : (g, T) ∈ κ.gl) : Does κ ⟨dst, .load t (.global g), ty, pos, after, gd⟩ Γ L T :=
  does_of_run fun L' a w hs hh he => by
    obtain ⟨_, v, hc, _, hv⟩ := hh.glob g T hg 0 T rfl
    rw [add_zero] at hc
    exact ⟨v, by simp [execOp, Act.eval, Instr.loadAt, Instr.sureAddr, loadVar, hag, hc], hv⟩
theorem does_loadGp {t : TypeId} {x : Operand} {g : Nat} {T : Ty} (hx : opTy Γ x = some (pAt g 0)) (hag : ∀ w, (isAgg t).run κ.P w = .ok false w) (hg : (g, T) ∈ κ.gl) : Does κ ⟨dst, .load t x, ty, pos, after, gd⟩ Γ L T :=
  does_of_run fun L' a w hs hh he => by
    obtain ⟨_, v, hc, _, hv⟩ := hh.glob g T hg 0 T rfl
    rw [add_zero] at hc
    have h1 : a.eval x = .pointer (some ⟨g, 0, none⟩) := opTy_holds he hx
    exact ⟨v, by simp [execOp, h1, Instr.loadAt, Instr.sureAddr, loadVar, hag, hc], hv⟩
theorem does_makeFunc {fn : Fn} {caps : Array Operand} {vs : List Value} (hc : caps.toList.map (opTy Γ) = vs.map (fun v => some (Ty.val v))) : Does κ ⟨dst, .makeFunc fn #[] caps, ty, pos, after, gd⟩ Γ L (Ty.val (.func fn #[] vs.toArray)) :=
  does_of_run fun L' a w _ _ he => by
    refine ⟨.func fn #[] vs.toArray, ?_, rfl⟩
    have h1 : caps.map a.eval = vs.toArray := by
      apply Array.ext'
      simp only [Array.toList_map]
      apply List.ext_getElem?
      intro i
      have h2 := congrArg (fun l => l[i]?) hc
      simp only [List.getElem?_map] at h2 ⊢
      cases h3 : caps.toList[i]? with
      | none => rw [h3] at h2; simp only [Option.map_none] at h2; cases h4 : vs[i]? with
        | none => simp [h4]
        | some v => rw [h4] at h2; cases h2
      | some x =>
        rw [h3] at h2
        simp only [Option.map_some] at h2
        cases h4 : vs[i]? with
        | none => rw [h4] at h2; cases h2
        | some v =>
          rw [h4] at h2
          simp only [Option.map_some, Option.some.injEq] at h2
          have : a.eval x = v := opTy_holds he h2
          simp [this]
    simp [execOp, Instr.makeFunc, h1]
theorem does_eqlB {t1 t2 : TypeId} {x y : Operand} {b c : Bool} (hu : κ.P.underlying t1 = some .bool) (hx : opTy Γ x = some (tB b)) (hy : opTy Γ y = some (tB c)) : Does κ ⟨dst, .binOp .eql t1 x y t2, ty, pos, after, gd⟩ Γ L (tB (b == c)) :=
  does_of_run fun L' a w _ _ he => by
    have h1 : a.eval x = .bool b := opTy_holds he hx
    have h2 : a.eval y = .bool c := opTy_holds he hy
    refine ⟨.bool (b == c), ?_, rfl⟩
    simp [execOp, eqGuard, h1, h2, binOp, Op.equal, Op.maxDepth, run_equalIn_bool w 9999 t1 b c hu]
theorem does_neqB {t1 t2 : TypeId} {x y : Operand} {b c : Bool} (hu : κ.P.underlying t1 = some .bool) (hx : opTy Γ x = some (tB b)) (hy : opTy Γ y = some (tB c)) : Does κ ⟨dst, .binOp .neq t1 x y t2, ty, pos, after, gd⟩ Γ L (tB (!(b == c))) :=
  does_of_run fun L' a w _ _ he => by
    have h1 : a.eval x = .bool b := opTy_holds he hx
    have h2 : a.eval y = .bool c := opTy_holds he hy
    refine ⟨.bool (!(b == c)), ?_, rfl⟩
    simp [execOp, eqGuard, h1, h2, binOp, Op.equal, Op.maxDepth, run_equalIn_bool w 9999 t1 b c hu]
end
end Go.Proofs.YtocfnpnnbmicmaaDoor.Tc
