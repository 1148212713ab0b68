/- The typing calculus: what the call owns: boxes, rows, stores, appends, makes, calls. -/
import Derived.Test.YtocfnpnnbmicmaaDoorBase3
set_option linter.unusedVariables false
set_option linter.unusedSimpArgs false
namespace Go.Proofs.YtocfnpnnbmicmaaDoor.Tc
open Go Go.RowKit

/-! ### Items by their place -/
theorem split_at {L : List Item} {n : Nat} {it : Item} (h : L[n]? = some it) : ∃ l1 l2, L = l1 ++ it :: l2 ∧ l1.length = n ∧ ∀ it', L.set n it' = l1 ++ it' :: l2 := by
  induction L generalizing n with
  | nil => simp at h
  | cons x L ih =>
    cases n with
    | zero => simp at h; subst h; exact ⟨[], L, rfl, rfl, fun _ => rfl⟩
    | succ n =>
      obtain ⟨l1, l2, h1, h2, h3⟩ := ih (by simpa using h)
      exact ⟨x :: l1, l2, by rw [h1]; rfl, by simp [h2], fun it' => by simp only [List.set_cons_succ, h3]; rfl⟩
theorem erase_at {L : List Item} {n : Nat} {it : Item} (h : L[n]? = some it) : L.Perm (it :: L.eraseIdx n) := by
  induction L generalizing n with
  | nil => simp at h
  | cons x L ih =>
    cases n with
    | zero => simp at h; subst h; exact List.Perm.refl _
    | succ n => exact ((ih (by simpa using h)).cons x).trans (List.Perm.swap _ _ _)
theorem set_perm {L : List Item} {n : Nat} {it : Item} (h : L[n]? = some it) (it' : Item) : (L.set n it').Perm (it' :: L.eraseIdx n) := by
  induction L generalizing n with
  | nil => simp at h
  | cons x L ih =>
    cases n with
    | zero => exact List.Perm.refl _
    | succ n => exact ((ih (by simpa using h)).cons x).trans (List.Perm.swap _ _ _)

theorem Holds.swapAt {gl : Gl} {L : List Item} {w w' : World} {n : Nat} {i i' : Item} (h : Holds gl L w) (hn : L[n]? = some i) (hs : w.heap.size ≤ w'.heap.size) (ho : w'.os = w.os) (ht : w'.tape = w.tape) (hu : w'.output = w.output)
    (hk : ∀ b, b < w.heap.size → ¬ i.foot b → w'.heap[b]? = w.heap[b]?) (hf : ∀ b, i'.foot b → i.foot b ∨ w.heap.size ≤ b)
    (hi : ∀ M, Le (foot L) w M w' → i'.hold M w') :
    Holds gl (L.set n i') w' ∧ Le (foot L) w (foot (L.set n i')) w' := by
  have hp := erase_at hn
  have hq := set_perm hn i'
  obtain ⟨h1, h2⟩ := (h.perm hp).swap (i' := i') hs ho ht hu hk hf (fun M hl _ _ => hi M ((le_perm hp w).trans hl))
  exact ⟨h1.perm hq.symm, (le_perm hp w).trans (h2.trans (le_perm hq.symm w'))⟩

/-- The value's cells read as ps. -/
def PartTy (T : Ty) (ps : List Ty) : Prop := ∀ M w v, T.holds M w v → ArrAt ps M w v.cells
theorem part_one {T : Ty} (h : T.One) : PartTy T [T] := fun M w v hv => by
  have h1 := h M w v hv
  have hc : v.cells = #[v] := by cases v <;> simp_all [Value.cells, Value.oneCell']
  rw [hc]
  refine ⟨rfl, fun j t ht => ?_⟩
  cases j with
  | zero => cases ht; exact ⟨v, rfl, h1, hv⟩
  | succ j => cases ht
theorem part_agg (ps : List Ty) : PartTy (Ty.agg ps) ps := fun M w v ⟨cs, e, h⟩ => by subst e; exact h
theorem arr_vals {M : Fb} {w : World} (z : List Value) (h : z.all Value.oneCell' = true) : ArrAt (z.map Ty.val) M w z.toArray :=
  ⟨by simp, fun j t ht => by
    simp only [List.getElem?_map, Option.map_eq_some_iff] at ht
    obtain ⟨v, hv, rfl⟩ := ht
    exact ⟨v, by simpa using hv, List.all_eq_true.1 h v (List.mem_of_getElem? hv), rfl⟩⟩
/-- A constant struct. -/
theorem sub_agg (z : List Value) (h : z.all Value.oneCell' = true) : Sub (Ty.val (.agg z.toArray)) (Ty.agg (z.map Ty.val)) := fun M w v e => ⟨z.toArray, e, arr_vals z h⟩

section
variable {κ : Kx} {Q : Post} {Γ : Cx} {L : List Item} {ops : Array Oper} {rest : List Oper}
variable {dst : Option Nat} {ty : TypeId} {pos : String} {after : Array Edge}

/-- The operation answers a value (or nothing: undef) and may change what is owned: C is told of what comes of it. -/
def DoesO (κ : Kx) (o : Oper) (Γ : Cx) (L : List Item) (C : Ty → List Item → Prop) : Prop :=
  ∀ (a : Act) (w : World), Sat κ Γ L a w → ∀ (K : Act → World → Prop) (Q : Post),
    (∀ v w' T L', Holds κ.gl L' w' → Le (foot L) w (foot L') w' → T.holds (foot L') w' v → C T L' → K (a.put o.dst v) w') → o.wp κ.P a w K Q
theorem doesO_run {o : Oper} {C : Ty → List Item → Prop} (h : ∀ a w, Sat κ Γ L a w → ∃ v w' T L', (execOp a.eval o).run κ.P w = .ok (.value v) w' ∧ Holds κ.gl L' w' ∧ Le (foot L) w (foot L') w' ∧ T.holds (foot L') w' v ∧ C T L') : DoesO κ o Γ L C := fun a w s K Q hk => by
  obtain ⟨v, w', T, L', hr, h1, h2, h3, h4⟩ := h a w s
  unfold Oper.wp
  rw [hr]
  exact hk v w' T L' h1 h2 h3 h4
theorem doesO_unit {o : Oper} {C : Ty → List Item → Prop} (h : ∀ a w, Sat κ Γ L a w → ∃ w' L', (execOp a.eval o).run κ.P w = .ok .skip w' ∧ Holds κ.gl L' w' ∧ Le (foot L) w (foot L') w' ∧ C (Ty.val undef) L') : DoesO κ o Γ L C := fun a w s K Q hk => by
  obtain ⟨w', L', hr, h1, h2, h4⟩ := h a w s
  unfold Oper.wp
  rw [hr]
  exact hk undef w' (Ty.val undef) L' h1 h2 rfl h4
theorem okL_stepO {op : Op} (d : Nat) (hd : dst = some d) (hn : Nat.blt d κ.n = true) (h : DoesO κ ⟨dst, op, ty, pos, after, none⟩ Γ L (fun T L' => OkL κ ops Q rest ((d, T) :: Γ) L')) :
    OkL κ ops Q (⟨dst, op, ty, pos, after, none⟩ :: rest) Γ L := fun a w s => by
  subst hd
  refine wpList_plain rfl fun K hK => ?_
  exact h a w s K Q fun v w' T L' h1 h2 h3 h4 => hK _ _ (h4 _ _ (s.put d T v (Nat.lt_of_succ_le (Nat.le_of_ble_eq_true hn)) h1 h2 h3))
theorem okL_stepU {op : Op} (hd : dst = none) (h : DoesO κ ⟨dst, op, ty, pos, after, none⟩ Γ L (fun _ L' => OkL κ ops Q rest Γ L')) :
    OkL κ ops Q (⟨dst, op, ty, pos, after, none⟩ :: rest) Γ L := fun a w s => by
  subst hd
  refine wpList_plain rfl fun K hK => ?_
  exact h a w s K Q fun v w' T L' h1 h2 h3 h4 => hK _ _ (h4 _ _ ⟨s.defers, s.size, h1, s.le.trans h2, s.env.le h2⟩)

abbrev pAt (g o : Nat) : Ty := Ty.val (.pointer (some ⟨g, o, none⟩))

theorem blk_new {gl : Gl} {w : World} {e : TypeId} {ts : List Ty} {cs : Array Value} (h : Holds gl L w) (ha : ArrAt ts (foot L) w cs) :
    Holds gl (Item.blk w.heap.size e ts :: L) (w.alloc (.cells cs e)) ∧ Le (foot L) w (foot (Item.blk w.heap.size e ts :: L)) (w.alloc (.cells cs e)) :=
  h.new (i' := Item.blk w.heap.size e ts) (by simp) rfl rfl rfl (fun b hb => Below.heap_alloc w _ b hb) (fun b hb => by have : b = w.heap.size := hb; omega)
    (fun M hl _ _ => ⟨cs, heap_alloc_new w _, ha.mono hl⟩)

variable {gd : Option (Nat × Bool)} {C : Ty → List Item → Prop}
theorem doesO_box {e : TypeId} {x : Operand} {T : Ty} (ts : List Ty) (hx : opTy Γ x = some T) (hp : PartTy T ts)
    (h : ∀ g, C (pAt g 0) (Item.blk g e ts :: L)) : DoesO κ ⟨dst, .box e x, ty, pos, after, gd⟩ Γ L C :=
  doesO_run fun a w s => by
    obtain ⟨h1, h2⟩ := blk_new (e := e) s.holds (hp _ _ _ (opTy_holds s.env hx))
    exact ⟨_, _, pAt w.heap.size 0, _, by simp [execOp, Instr.box, newVar, newRow]; done, h1, h2, rfl, h _⟩
theorem doesO_alloc {e : TypeId} {z : Value} (ts : List Ty) (hz : ∀ w, (zeroValue e).run κ.P w = .ok z w) (hp : PartTy (Ty.val z) ts)
    (h : ∀ g, C (pAt g 0) (Item.blk g e ts :: L)) : DoesO κ ⟨dst, .alloc e, ty, pos, after, gd⟩ Γ L C :=
  doesO_run fun a w s => by
    obtain ⟨h1, h2⟩ := blk_new (e := e) s.holds (hp (foot L) w z rfl)
    exact ⟨_, _, pAt w.heap.size 0, _, by simp [execOp, Instr.alloc, hz, newVar, newRow]; done, h1, h2, rfl, h _⟩

theorem blk_cell {w : World} {g o : Nat} {e : TypeId} {cs : Array Value} (hg : w.heap[g]? = some (.cells cs e (0, 0))) : w.cell? ⟨g, o, none⟩ = cs[o]? := cell_of_row w g o cs e (0, 0) hg

/-- A block's cells read. -/
theorem does_loadB1 {t e : TypeId} {x : Operand} {g o : Nat} {ts : List Ty} {T : Ty} (hag : ∀ w, (isAgg t).run κ.P w = .ok false w) (hx : opTy Γ x = some (pAt g o)) (n : Nat) (hi : L[n]? = some (Item.blk g e ts)) (hT : ts[o]? = some T) :
    Does κ ⟨dst, .load t x, ty, pos, after, gd⟩ Γ L T :=
  does_of_run fun L' a w hs hh he => by
    have h1 : a.eval x = .pointer (some ⟨g, o, none⟩) := opTy_holds he hx
    obtain ⟨cs, hg, ha⟩ := hh.each _ (hs _ (List.mem_of_getElem? hi))
    obtain ⟨v, hv, _, hT⟩ := ha.2 _ _ hT
    exact ⟨v, by simp [execOp, h1, Instr.loadAt, Instr.sureAddr, loadVar, hag, blk_cell hg, hv], hT⟩
theorem cells_of {M : Fb} {w : World} {g o : Nat} {e : TypeId} {cs : Array Value} {us : List Ty} (hg : w.heap[g]? = some (.cells cs e (0, 0))) (hu : ∀ j t, us[j]? = some t → ∃ v, cs[o + j]? = some v ∧ v.oneCell' = true ∧ t.holds M w v) :
    ∃ vs : List Value, vs.length = us.length ∧ (∀ j v, vs[j]? = some v → w.cell? ((⟨g, o, none⟩ : Addr).add j) = some v) ∧ ArrAt us M w vs.toArray := by
  induction us generalizing o with
  | nil => exact ⟨[], rfl, fun j v h => (by simp at h), ⟨rfl, fun j t h => (by simp at h)⟩⟩
  | cons t us ih =>
    obtain ⟨vs, h1, h2, h3⟩ := ih (o := o + 1) (fun j u hj => by
      obtain ⟨v, hv⟩ := hu (j + 1) u (by simpa using hj)
      exact ⟨v, by rw [show o + 1 + j = o + (j + 1) by omega]; exact hv⟩)
    obtain ⟨v, hv, hv1, hv2⟩ := hu 0 t rfl
    refine ⟨v :: vs, by simp [h1], fun j u hj => ?_, by simp [h1], fun j u hj => ?_⟩
    · cases j with
      | zero => cases hj; rw [add_lit, blk_cell hg]; exact hv
      | succ j =>
        have := h2 j u (by simpa using hj)
        rw [add_lit] at this ⊢
        rw [show o + (j + 1) = o + 1 + j by omega]; exact this
    · cases j with
      | zero => cases hj; exact ⟨v, rfl, hv1, hv2⟩
      | succ j => obtain ⟨z, hz, h5⟩ := h3.2 j u (by simpa using hj); exact ⟨z, by simpa using hz, h5⟩
theorem does_loadBA {t e : TypeId} {x : Operand} {g o sz : Nat} {ts : List Ty} (us : List Ty) (hag : ∀ w, (isAgg t).run κ.P w = .ok true w) (hsz : ∀ w, (sizeOf t).run κ.P w = .ok sz w) (hx : opTy Γ x = some (pAt g o)) (n : Nat) (hi : L[n]? = some (Item.blk g e ts))
    (hu : us = (ts.drop o).take sz) (hl : us.length = sz) : Does κ ⟨dst, .load t x, ty, pos, after, gd⟩ Γ L (Ty.agg us) :=
  does_of_run fun L' a w hs hh he => by
    have h1 : a.eval x = .pointer (some ⟨g, o, none⟩) := opTy_holds he hx
    obtain ⟨cs, hg, ha⟩ := hh.each _ (hs _ (List.mem_of_getElem? hi))
    obtain ⟨vs, h2, h3, h4⟩ := cells_of (us := us) (M := foot L') (o := o) hg (fun j T hj => by
      subst hu
      rw [List.getElem?_take] at hj
      split at hj
      · rw [List.getElem?_drop] at hj; exact ha.2 _ _ hj
      · cases hj)
    have hr := run_loadCells_list (P := κ.P) w ⟨g, o, none⟩ vs h3
    rw [h2, hl] at hr
    exact ⟨.agg vs.toArray, by simp [execOp, h1, Instr.loadAt, Instr.sureAddr, loadVar, hag, hsz, hr], vs.toArray, rfl, h4⟩
theorem does_fieldAddrP {s : TypeId} {x : Operand} {f g o : Nat} {fs : Array Field} {fl : Field} {k : Nat} (o' : Nat) (hu : κ.P.underlying s = some (.struct fs)) (hf : fs[f]? = some fl) (hk : ∀ w, (sizeOf fl.type).run κ.P w = .ok (k + 1) w)
    (hx : opTy Γ x = some (pAt g o)) (ho : o' = o + fl.offset) : Does κ ⟨dst, .fieldAddr s x f, ty, pos, after, gd⟩ Γ L (pAt g o') :=
  does_of_run fun L' a w _ _ he => by
    have h1 : a.eval x = .pointer (some ⟨g, o, none⟩) := opTy_holds he hx
    subst ho
    exact ⟨_, by simp [execOp, h1, Instr.fieldAt, run_underlying hu, hf, Instr.sureAddr, fieldPlace, hk, add_lit], rfl⟩
theorem does_nilCheck {x : Operand} {g o : Nat} (hx : opTy Γ x = some (pAt g o)) : Does κ ⟨dst, .nilCheck x, ty, pos, after, gd⟩ Γ L (pAt g o) :=
  does_of_run fun L' a w _ _ he => by
    have h1 : a.eval x = .pointer (some ⟨g, o, none⟩) := opTy_holds he hx
    exact ⟨_, by simp [execOp, h1], rfl⟩

/-- ts with ps laid over it from o on. -/
def over (ts : List Ty) (o : Nat) (ps : List Ty) : List Ty := ts.take o ++ ps ++ ts.drop (o + ps.length)
theorem over_get (ts : List Ty) (o : Nat) (ps : List Ty) (h : o + ps.length ≤ ts.length) (j : Nat) : (over ts o ps)[j]? = if j < o then ts[j]? else if j < o + ps.length then ps[j - o]? else ts[j]? := by
  unfold over
  rw [List.append_assoc, List.getElem?_append]
  have hto : (ts.take o).length = o := by simp; omega
  rw [hto]
  split
  · rename_i hj; rw [List.getElem?_take, if_pos hj]
  · rename_i hj
    rw [List.getElem?_append]
    split
    · rename_i h2; rw [if_pos (by omega)]
    · rename_i h2; rw [if_neg (by omega), List.getElem?_drop]; congr 1; omega
theorem over_length (ts : List Ty) (o : Nat) (ps : List Ty) (h : o + ps.length ≤ ts.length) : (over ts o ps).length = ts.length := by
  simp [over]; omega

theorem run_storeB {P : Program} {w : World} {t e : TypeId} {g o : Nat} {cs : Array Value} {v : Value} (hg : w.heap[g]? = some (.cells cs e (0, 0))) (hsz : ∀ w, (sizeOf t).run P w = .ok v.cells.size w) (h1 : ∀ u ∈ v.cells.toList, u.oneCell' = true) (hfit : o + v.cells.size ≤ cs.size) :
    (Instr.storeAt t (.pointer (some ⟨g, o, none⟩)) v).run P w = .ok () (w.setRow g (cs.toList.take o ++ v.cells.toList ++ cs.toList.drop (o + v.cells.size)).toArray) := by
  have hst := run_storeCells_at P g o e v.cells.toList 0 cs w hg (by simpa using hfit) h1
  simp only [Nat.add_zero] at hst
  simp [Instr.storeAt, Instr.sureAddr, storeVar, hsz, hst]
theorem setRow_new {w : World} {g : Nat} {cs cs' : Array Value} {e : TypeId} (hg : w.heap[g]? = some (.cells cs e (0, 0))) : (w.setRow g cs').heap[g]? = some (.cells cs' e (0, 0)) := setRow_heap w g cs cs' e _ hg
theorem arr_one {ps : List Ty} {M : Fb} {w : World} {cs : Array Value} (h : ArrAt ps M w cs) : ∀ u ∈ cs.toList, u.oneCell' = true := by
  intro u hu
  obtain ⟨j, hj⟩ := List.mem_iff_getElem?.1 hu
  have hjl : j < ps.length := by rw [← h.1]; have := (List.getElem?_eq_some_iff.1 hj).1; simpa using this
  obtain ⟨z, hz, h1, _⟩ := h.2 j _ (List.getElem?_eq_getElem hjl)
  rw [← Array.getElem?_toList, hj] at hz
  cases hz; exact h1
/-- The cells of a block with a value's cells laid over them. -/
theorem arr_over {ts ps : List Ty} {M : Fb} {w : World} {cs vs : Array Value} {o : Nat} (hc : ArrAt ts M w cs) (hv : ArrAt ps M w vs) (h : o + ps.length ≤ ts.length) :
    ArrAt (over ts o ps) M w (cs.toList.take o ++ vs.toList ++ cs.toList.drop (o + vs.size)).toArray := by
  have h1 := hc.1
  have h2 := hv.1
  refine ⟨by rw [over_length _ _ _ h]; simp; omega, fun j t ht => ?_⟩
  rw [over_get _ _ _ h] at ht
  have hto : (cs.toList.take o).length = o := by simp; omega
  simp only [List.append_assoc, List.getElem?_toArray]
  rw [List.getElem?_append, hto]
  split at ht
  · rename_i hj
    rw [if_pos hj]
    obtain ⟨u, hu, h3⟩ := hc.2 j t ht
    exact ⟨u, by rw [List.getElem?_take, if_pos hj]; simpa using hu, h3⟩
  · rename_i hj
    rw [if_neg hj, List.getElem?_append]
    split at ht
    · rename_i hj2
      obtain ⟨u, hu, h3⟩ := hv.2 _ t ht
      exact ⟨u, by rw [if_pos (by simp; omega)]; simpa using hu, h3⟩
    · rename_i hj2
      obtain ⟨u, hu, h3⟩ := hc.2 j t ht
      refine ⟨u, ?_, h3⟩
      rw [if_neg (by simp; omega), List.getElem?_drop]
      simp only [Array.length_toList, Array.getElem?_toList]
      rw [show o + vs.size + (j - o - vs.size) = j by omega]
      exact hu

theorem doesO_storeB {t e : TypeId} {x y : Operand} {g o : Nat} {ts ps : List Ty} {T : Ty} (n : Nat) (ts' : List Ty) (L' : List Item) (hx : opTy Γ x = some (pAt g o)) (hy : opTy Γ y = some T) (hp : PartTy T ps)
    (hsz : ∀ w, (sizeOf t).run κ.P w = .ok ps.length w) (hi : L[n]? = some (Item.blk g e ts)) (hfit : Nat.ble (o + ps.length) ts.length = true) (hts : ts' = over ts o ps) (hL : L' = L.set n (Item.blk g e ts'))
    (h : C (Ty.val undef) L') : DoesO κ ⟨dst, .store t x y, ty, pos, after, gd⟩ Γ L C :=
  doesO_unit fun a w s => by
    have h1 : a.eval x = .pointer (some ⟨g, o, none⟩) := opTy_holds s.env hx
    have hv := hp _ _ _ (opTy_holds s.env hy)
    obtain ⟨cs, hg, ha⟩ := s.holds.each _ (List.mem_of_getElem? hi)
    have hfit' := Nat.le_of_ble_eq_true hfit
    have hcv := hv.1
    have hr := run_storeB (P := κ.P) (t := t) (o := o) (v := a.eval y) hg (fun w => by rw [hcv]; exact hsz w) (arr_one hv) (by rw [hcv, ha.1]; exact hfit')
    have hw := s.holds.swapAt (i' := Item.blk g e ts') hi (w' := w.setRow g (cs.toList.take o ++ (a.eval y).cells.toList ++ cs.toList.drop (o + (a.eval y).cells.size)).toArray)
      (by simp) rfl rfl rfl (fun b _ hb => setRow_other w g b _ (fun q => hb q)) (fun b hb => .inl hb)
      (fun M hl => ⟨_, setRow_new hg, by rw [hts]; exact arr_over (ha.mono hl) (hv.mono hl) hfit'⟩)
    subst hL
    exact ⟨_, _, by simp [execOp, h1, hr], hw.1, hw.2, h⟩
end
end Go.Proofs.YtocfnpnnbmicmaaDoor.Tc
