/- The typing calculus: elements of a row of the call's own; make; handing a row on; calls; the way in and out. -/
import Derived.Test.YtocfnpnnbmicmaaDoorBase5
set_option linter.unusedVariables false
set_option linter.unusedSimpArgs false
namespace Go.Proofs.YtocfnpnnbmicmaaDoor.Tc
open Go Go.RowKit

/-- A pointer at cell off of element i of the row v. -/
def Ty.rptr (v : Value) (o : Nat) : Ty := ⟨fun _ _ u => ∃ g n c, v = .slice (some ⟨g, 0, none⟩) n c ∧ u = .pointer (some ⟨g, o, none⟩), fun h _ => h⟩

section
variable {κ : Kx} {Q : Post} {Γ : Cx} {L : List Item} {ops : Array Oper} {rest : List Oper}
variable {dst : Option Nat} {ty : TypeId} {pos : String} {after : Array Edge} {gd : Option (Nat × Bool)} {C : Ty → List Item → Prop}

section rows
variable {α : Type} {sz bytes : Nat} {f : α → List Ty} {l : List α} {t e : TypeId} {z : Value} {x : Operand} {v : Value}
theorem does_lenR {tys : Array TypeId} (h0 : tys[0]? = some t) (hu : κ.P.underlying t = some (.slice e)) (n : Nat) (hx : opTy Γ x = some (Ty.own v)) (hi : L[n]? = some (rowL v e sz f l)) : Does κ ⟨dst, .call ⟨.builtin .len, #[x], tys⟩, ty, pos, after, gd⟩ Γ L (tI (l.length : Int)) :=
  does_of_run fun L' a w hs hh he => by
    obtain ⟨A, c, hv⟩ := row_len (hh.each _ (hs _ (List.mem_of_getElem? hi)))
    have h1 : a.eval x = v := (opTy_holds he hx).1
    exact ⟨_, by simp [execOp, resolve, invoke, builtin, Builtin.len_, h1, hv, h0, run_underlying hu, goInt], rfl⟩
theorem does_indexR {i : Operand} {k : IntKind} {m : Int} (hE : ElTy κ.P t e z sz bytes) (n : Nat) (y : α) (hidx : idx l m = some y) (hx : opTy Γ x = some (Ty.own v)) (hi : L[n]? = some (rowL v e sz f l)) (hm : opTy Γ i = some (tK k m)) :
    Does κ ⟨dst, .indexAddr t x i, ty, pos, after, gd⟩ Γ L (Ty.rptr v (m.toNat * sz)) :=
  does_of_run fun L' a w hs hh he => by
    have h1 : a.eval x = v := (opTy_holds he hx).1
    have h2 : a.eval i = .int k m := opTy_holds he hm
    obtain ⟨h3, h4, h5⟩ := idx_some hidx
    have hrow : RowAt v e sz (l.map f) (foot L') w := hh.each _ (hs _ (List.mem_of_getElem? hi))
    rcases hrow with ⟨rfl, hl⟩ | ⟨g, cap, cur, rfl, hg, h6, h7, h8, h9⟩
    · rw [List.map_eq_nil_iff.1 hl] at h5; simp at h5
    · simp only [List.length_map] at h1
      refine ⟨.pointer (some ⟨g, m.toNat * sz, none⟩), ?_, g, _, _, rfl, rfl⟩
      simp [execOp, h1, h2, Instr.indexAt, asIntOf, run_underlying hE.sl, h3, h4, hE.run, add_lit]
theorem does_fieldAddrR {s : TypeId} {j o : Nat} {fs : Array Field} {fl : Field} {k : Nat} (o' : Nat) (hu : κ.P.underlying s = some (.struct fs)) (hf : fs[j]? = some fl) (hk : ∀ w, (sizeOf fl.type).run κ.P w = .ok (k + 1) w)
    (hx : opTy Γ x = some (Ty.rptr v o)) (ho : o' = o + fl.offset) : Does κ ⟨dst, .fieldAddr s x j, ty, pos, after, gd⟩ Γ L (Ty.rptr v o') :=
  does_of_run fun L' a w _ _ he => by
    obtain ⟨g, n, c, hv, h1⟩ := opTy_holds he hx
    subst ho
    exact ⟨_, by simp [execOp, h1, Instr.fieldAt, run_underlying hu, hf, Instr.sureAddr, fieldPlace, hk, add_lit], g, n, c, hv, rfl⟩
/-- A cell of a row read. -/
theorem does_loadR1 {t' : TypeId} {m : Int} {T : Ty} (n : Nat) (y : α) (o : Nat) (hag : ∀ w, (isAgg t').run κ.P w = .ok false w) (hidx : idx l m = some y) (hx : opTy Γ x = some (Ty.rptr v (m.toNat * sz + o))) (hi : L[n]? = some (rowL v e sz f l)) (hT : (f y)[o]? = some T) :
    Does κ ⟨dst, .load t' x, ty, pos, after, gd⟩ Γ L T :=
  does_of_run fun L' a w hs hh he => by
    obtain ⟨g, _, c, hv, h1⟩ := opTy_holds he hx
    obtain ⟨h3, h4, h5⟩ := idx_some hidx
    have hrow : RowAt v e sz (l.map f) (foot L') w := hh.each _ (hs _ (List.mem_of_getElem? hi))
    rcases hrow with ⟨rfl, hl⟩ | ⟨g', cap, cur, hv', hg, h6, h7, h8, h9⟩
    · cases hv
    · rw [hv'] at hv; cases hv
      obtain ⟨_, h10⟩ := h9 m.toNat (f y) (by simp [h5])
      obtain ⟨u, hu, _, hu2⟩ := h10 o T hT
      exact ⟨u, by simp [execOp, h1, Instr.loadAt, Instr.sureAddr, loadVar, hag, blk_cell hg, hu], hu2⟩
theorem does_loadRA {t' : TypeId} {m : Int} {k : Nat} (us : List Ty) (n : Nat) (y : α) (o : Nat) (hag : ∀ w, (isAgg t').run κ.P w = .ok true w) (hsz : ∀ w, (sizeOf t').run κ.P w = .ok k w) (hidx : idx l m = some y) (hx : opTy Γ x = some (Ty.rptr v (m.toNat * sz + o))) (hi : L[n]? = some (rowL v e sz f l))
    (hu : us = ((f y).drop o).take k) (hl : us.length = k) : Does κ ⟨dst, .load t' x, ty, pos, after, gd⟩ Γ L (Ty.agg us) :=
  does_of_run fun L' a w hs hh he => by
    obtain ⟨g, _, c, hv, h1⟩ := opTy_holds he hx
    obtain ⟨h3, h4, h5⟩ := idx_some hidx
    have hrow : RowAt v e sz (l.map f) (foot L') w := hh.each _ (hs _ (List.mem_of_getElem? hi))
    rcases hrow with ⟨rfl, hl⟩ | ⟨g', cap, cur, hv', hg, h6, h7, h8, h9⟩
    · cases hv
    · rw [hv'] at hv; cases hv
      obtain ⟨_, h10⟩ := h9 m.toNat (f y) (by simp [h5])
      obtain ⟨vs, h2, h3, h4⟩ := cells_of (us := us) (M := foot L') (o := m.toNat * sz + o) hg (fun j T hj => by
        subst hu
        rw [List.getElem?_take] at hj
        split at hj
        · rw [List.getElem?_drop] at hj
          obtain ⟨u, hu⟩ := h10 _ T hj
          exact ⟨u, by rw [Nat.add_assoc]; exact hu⟩
        · cases hj)
      have hr := run_loadCells_list (P := κ.P) w ⟨g, m.toNat * sz + o, none⟩ vs h3
      rw [h2, hl] at hr
      exact ⟨.agg vs.toArray, by simp [execOp, h1, Instr.loadAt, Instr.sureAddr, loadVar, hag, hsz, hr], vs.toArray, rfl, h4⟩

/-- xs[i] = y, or nothing where Go would panic. -/
def upd {α : Type} (l : List α) (i : Int) (y : α) : Option (List α) := if 0 ≤ i ∧ i < l.length then some (l.set i.toNat y) else none
theorem upd_some {α : Type} {l : List α} {i : Int} {y : α} {r : List α} (h : upd l i y = some r) : 0 ≤ i ∧ i < l.length ∧ r = l.set i.toNat y := by
  unfold upd at h
  split at h
  · rename_i hb; cases h; exact ⟨hb.1, hb.2, rfl⟩
  · cases h

/-- A store into a row: the element's cells from o on. y' : the element behind it. -/
theorem doesO_storeR {t' : TypeId} {m : Int} {x y : Operand} {ps : List Ty} {T : Ty} (n o : Nat) (y0 y1 : α) (r : List α) (L' : List Item) (hx : opTy Γ x = some (Ty.rptr v (m.toNat * sz + o))) (hy : opTy Γ y = some T) (hp : PartTy T ps)
    (hsz : ∀ w, (sizeOf t').run κ.P w = .ok ps.length w) (hi : L[n]? = some (rowL v e sz f l)) (hidx : idx l m = some y0) (hf1 : (f y1).length = sz) (hf : f y1 = over (f y0) o ps) (hfit : Nat.ble (o + ps.length) sz = true) (hr : r = l.set m.toNat y1) (hL : L' = L.set n (rowL v e sz f r))
    (h : C (Ty.val undef) L') : DoesO κ ⟨dst, .store t' x y, ty, pos, after, gd⟩ Γ L C :=
  doesO_unit fun a w s => by
    obtain ⟨g, _, c, hv0, h1⟩ := opTy_holds s.env hx
    have hv := hp _ _ _ (opTy_holds s.env hy)
    obtain ⟨h3, h4, h5⟩ := idx_some hidx
    have hfit' := Nat.le_of_ble_eq_true hfit
    have hrow : RowAt v e sz (l.map f) (foot L) w := s.holds.each _ (List.mem_of_getElem? hi)
    rcases hrow with ⟨rfl, hl⟩ | ⟨g', cap, cur, hv', hg, h6, h7, h8, h9⟩
    · cases hv0
    · rw [hv'] at hv0; cases hv0
      have hml : m.toNat < (l.map f).length := by simp; omega
      have hmc : (m.toNat + 1) * sz ≤ c * sz := Nat.mul_le_mul_right _ (by simp only [List.length_map] at h6; omega)
      rw [Nat.add_mul, Nat.one_mul] at hmc
      have hcv := hv.1
      have hro := run_storeB (P := κ.P) (t := t') (o := m.toNat * sz + o) (v := a.eval y) hg (fun w => by rw [hcv]; exact hsz w) (arr_one hv) (by rw [hcv, h8]; omega)
      have hw := s.holds.swapAt (i' := rowL v e sz f r) hi (w' := w.setRow g (cur.toList.take (m.toNat * sz + o) ++ (a.eval y).cells.toList ++ cur.toList.drop (m.toNat * sz + o + (a.eval y).cells.size)).toArray)
        (by simp) rfl rfl rfl (fun b _ hb => setRow_other w g b _ (fun q => hb (by rw [q]; show v.ownBlock = some g; rw [hv']; rfl))) (fun b hb => .inl hb)
        (fun M hl => by
          refine .inr ⟨g, c, _, by rw [hv']; simp [hr], setRow_new hg, by simpa [hr] using h6, h7, by simp; omega, fun i es hes => ?_⟩
          subst hr
          simp only [List.getElem?_map, List.getElem?_set, Option.map_eq_some_iff] at hes
          obtain ⟨q, hq, rfl⟩ := hes
          have hto : (cur.toList.take (m.toNat * sz + o)).length = m.toNat * sz + o := by simp; omega
          have hget : ∀ j, (cur.toList.take (m.toNat * sz + o) ++ (a.eval y).cells.toList ++ cur.toList.drop (m.toNat * sz + o + (a.eval y).cells.size)).toArray[j]? = if j < m.toNat * sz + o then cur[j]? else if j < m.toNat * sz + o + ps.length then (a.eval y).cells[j - (m.toNat * sz + o)]? else cur[j]? := by
            intro j
            simp only [List.append_assoc, List.getElem?_toArray]
            rw [List.getElem?_append, hto]
            split
            · rename_i hj; rw [List.getElem?_take, if_pos hj]; simp
            · rename_i hj
              rw [List.getElem?_append]
              simp only [Array.length_toList, hcv]
              split
              · rename_i hj2; rw [if_pos (by omega)]; simp
              · rename_i hj2; rw [if_neg (by omega), List.getElem?_drop, Array.getElem?_toList]; congr 1; omega
          split at hq
          · rename_i him
            have hq' : q = y1 := by
              split at hq
              · cases hq; rfl
              · cases hq
            subst hq'
            refine ⟨hf1, fun j U hU => ?_⟩
            have hjl : j < sz := by have := (List.getElem?_eq_some_iff.1 hU).1; omega
            rw [hget]
            obtain ⟨h0l, h0⟩ := h9 m.toNat (f y0) (by simp [h5])
            rw [hf, over_get _ _ _ (by rw [h0l]; exact hfit')] at hU
            subst him
            split at hU
            · rw [if_pos (by omega)]
              obtain ⟨u, hu, hu1, hu2⟩ := h0 j U hU
              exact ⟨u, hu, hu1, U.mono hu2 hl⟩
            · rename_i hj
              rw [if_neg (by omega)]
              split at hU
              · rw [if_pos (by omega)]
                obtain ⟨u, hu, hu1, hu2⟩ := hv.2 _ U hU
                exact ⟨u, by rw [← hu]; congr 1; omega, hu1, U.mono hu2 hl⟩
              · rw [if_neg (by omega)]
                obtain ⟨u, hu, hu1, hu2⟩ := h0 j U hU
                exact ⟨u, hu, hu1, U.mono hu2 hl⟩
          · rename_i him
            obtain ⟨h0l, h0⟩ := h9 i (f q) (by simp [hq])
            refine ⟨h0l, fun j U hU => ?_⟩
            have hjl : j < sz := by have := (List.getElem?_eq_some_iff.1 hU).1; omega
            rw [hget]
            obtain ⟨u, hu, hu1, hu2⟩ := h0 j U hU
            refine ⟨u, ?_, hu1, U.mono hu2 hl⟩
            rcases Nat.lt_or_ge i m.toNat with q1 | q1
            · have h12 : (i + 1) * sz ≤ m.toNat * sz := Nat.mul_le_mul_right _ q1
              rw [Nat.add_mul, Nat.one_mul] at h12
              rw [if_pos (by omega)]; exact hu
            · have h12 : (m.toNat + 1) * sz ≤ i * sz := Nat.mul_le_mul_right _ (by omega)
              rw [Nat.add_mul, Nat.one_mul] at h12
              rw [if_neg (by omega), if_neg (by omega)]; exact hu)
      subst hL
      exact ⟨_, _, by simp [execOp, h1, hro], hw.1, hw.2, h⟩

/-- make([]T, n), or nothing where Go would panic. -/
def mk {α : Type} (bytes : Nat) (n : Int) (y : α) : Option (List α) := if 0 ≤ n ∧ (bytes : Int) * n ≤ 281474976710656 ∧ n ≤ 9223372036854775807 then some (List.replicate n.toNat y) else none
theorem zcells_get (z : Array Value) (n i j : Nat) (hz : 0 < z.size) (hi : i < n) (hj : j < z.size) : (madeCells z (n * z.size))[i * z.size + j]? = z[j]? := by
  have hlt : i * z.size + j < n * z.size := by
    have : (i + 1) * z.size ≤ n * z.size := Nat.mul_le_mul_right _ hi
    rw [Nat.add_mul] at this; omega
  have hm : (i * z.size + j) % z.size = j := by rw [Nat.mul_comm, Nat.mul_add_mod]; exact Nat.mod_eq_of_lt hj
  simp [madeCells, hlt, hm, hj]
theorem doesO_make {n1 n2 : Operand} {k1 k2 : IntKind} {m : Int} (hE : ElTy κ.P t e z sz bytes) (y : α) (r : List α) (hr : mk bytes m y = some r) (h1 : opTy Γ n1 = some (tK k1 m)) (h2 : opTy Γ n2 = some (tK k2 m))
    (hz : PartTy (Ty.val z) (f y)) (h : ∀ v, C (Ty.own v) (rowL v e sz f r :: L)) : DoesO κ ⟨dst, .makeSlice t n1 n2, ty, pos, after, gd⟩ Γ L C :=
  doesO_run fun a w s => by
    unfold mk at hr
    split at hr
    · rename_i hb
      cases hr
      obtain ⟨i, hi1, hi2, hi3, hi4⟩ := hE.info
      have e1 : a.eval n1 = .int k1 m := opTy_holds s.env h1
      have e2 : a.eval n2 = .int k2 m := opTy_holds s.env h2
      have hrun := run_make (P := κ.P) w t e i z hE.sl hi1 hi2 k1 k2 m m hb.1 (Int.le_refl _) (by rw [hi4]; exact hb.2.1) hb.2.2
      rw [hi3] at hrun
      have hnew := s.holds.new (i' := rowL (.slice (some ⟨w.heap.size, 0, none⟩) m.toNat m.toNat) e sz f (List.replicate m.toNat y)) (w' := w.alloc (.cells (madeCells z.cells (m.toNat * sz)) e)) (by simp) rfl rfl rfl (fun b hb => Below.heap_alloc w _ b hb)
        (fun b hb => by have hb' : (Value.slice (some ⟨w.heap.size, 0, none⟩) m.toNat m.toNat).ownBlock = some b := hb; simp only [Value.ownBlock, Option.some.injEq] at hb'; omega)
        (fun M hl _ _ => by
          refine .inr ⟨w.heap.size, m.toNat, madeCells z.cells (m.toNat * sz), by simp, heap_alloc_new w _, by simp, by simp only [maxLen]; omega, size_madeCells _ _, fun i es hes => ?_⟩
          simp only [List.getElem?_map, List.getElem?_replicate, Option.map_eq_some_iff] at hes
          obtain ⟨q, hq, rfl⟩ := hes
          split at hq
          · rename_i him
            cases hq
            have hzc := hz M (w.alloc (.cells (madeCells z.cells (m.toNat * sz)) e)) z rfl
            refine ⟨by rw [← hzc.1]; exact hE.zc, fun j U hU => ?_⟩
            obtain ⟨u, hu, hu1⟩ := hzc.2 j U hU
            have hjz : j < z.cells.size := (Array.getElem?_eq_some_iff.1 hu).1
            refine ⟨u, ?_, hu1⟩
            have := zcells_get z.cells m.toNat i j (by rw [hE.zc]; exact hE.pos) him hjz
            rw [hE.zc] at this
            rw [this]; exact hu
          · cases hq)
      exact ⟨_, _, Ty.own (.slice (some ⟨w.heap.size, 0, none⟩) m.toNat m.toNat), _, by simp [execOp, e1, e2, hrun], hnew.1, hnew.2, ⟨rfl, rfl⟩, h _⟩
    · cases hr
end rows
end
end Go.Proofs.YtocfnpnnbmicmaaDoor.Tc
