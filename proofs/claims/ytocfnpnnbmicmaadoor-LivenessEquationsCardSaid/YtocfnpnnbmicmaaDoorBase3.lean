/- The typing calculus: memory that is only read, values built, calls. -/
import Derived.Test.YtocfnpnnbmicmaaDoorBase2
set_option linter.unusedVariables false
set_option linter.unusedSimpArgs false
namespace Go.Proofs.YtocfnpnnbmicmaaDoor.Tc
open Go

/-- xs[i], or nothing where Go would panic. -/
def idx {α : Type} (l : List α) (i : Int) : Option α := if 0 ≤ i then l[i.toNat]? else none
theorem idx_some {α : Type} {l : List α} {i : Int} {x : α} (h : idx l i = some x) : 0 ≤ i ∧ i < l.length ∧ l[i.toNat]? = some x := by
  unfold idx at h
  split at h
  · rename_i h0
    have := (List.getElem?_eq_some_iff.1 h).1
    exact ⟨h0, by omega, h⟩
  · cases h

theorem PtAt.cells {M : Fb} {w : World} : ∀ {ts : List Ty} {a : Addr}, PtAt M w a ts → ∃ cs : List Value, cs.length = ts.length ∧ (∀ j v, cs[j]? = some v → w.cell? (a.add j) = some v) ∧ ArrAt ts M w cs.toArray
  | [], a, _ => ⟨[], rfl, fun j v h => (by simp at h), ⟨rfl, fun j t h => (by simp at h)⟩⟩
  | t :: ts, a, h => by
    obtain ⟨cs, hl, hc, ha⟩ := PtAt.cells (ts := ts) (a := a.add 1) (by have := h.drop 1; simpa using this)
    obtain ⟨hm, v, hv, h1, ht⟩ := h 0 t rfl
    refine ⟨v :: cs, by simp [hl], fun j u hj => ?_, by simp [hl], fun j u hj => ?_⟩
    · cases j with
      | zero => cases hj; exact hv
      | succ j =>
        have := hc j u hj
        rw [add_add] at this
        rw [Nat.add_comm]; exact this
    · cases j with
      | zero => cases hj; exact ⟨v, rfl, h1, ht⟩
      | succ j => obtain ⟨z, hz, h2⟩ := ha.2 j u hj; exact ⟨z, by simpa using hz, h2⟩

section
variable {κ : Kx} {Q : Post} {Γ : Cx} {L : List Item} {ops : Array Oper} {rest : List Oper}
variable {dst : Option Nat} {ty : TypeId} {pos : String} {after : Array Edge} {gd : Option (Nat × Bool)}

theorem does_load1 {t : TypeId} {x : Operand} {T : Ty} {ts : List Ty} (hag : ∀ w, (isAgg t).run κ.P w = .ok false w) (hx : opTy Γ x = some (Ty.ptr (T :: ts))) : Does κ ⟨dst, .load t x, ty, pos, after, gd⟩ Γ L T :=
  does_of_run fun L' a w _ _ he => by
    obtain ⟨ad, h1, hp⟩ := opTy_holds he hx
    obtain ⟨_, v, hc, _, hv⟩ := hp 0 T rfl
    rw [add_zero] at hc
    exact ⟨v, by simp [execOp, h1, Instr.loadAt, Instr.sureAddr, loadVar, hag, hc], hv⟩
theorem does_loadA {t : TypeId} {x : Operand} {ts : List Ty} {sz : Nat} (us : List Ty) (hag : ∀ w, (isAgg t).run κ.P w = .ok true w) (hsz : ∀ w, (sizeOf t).run κ.P w = .ok sz w) (hx : opTy Γ x = some (Ty.ptr ts)) (hu : us = ts.take sz) (hl : us.length = sz) : Does κ ⟨dst, .load t x, ty, pos, after, gd⟩ Γ L (Ty.agg us) :=
  does_of_run fun L' a w _ _ he => by
    obtain ⟨ad, h1, hp⟩ := opTy_holds he hx
    obtain ⟨cs, hcl, hcc, hca⟩ := (hp.take sz).cells
    rw [← hu] at hcl hca
    have hr := run_loadCells_list (P := κ.P) w ad cs hcc
    rw [hcl, hl] at hr
    exact ⟨.agg cs.toArray, by simp [execOp, h1, Instr.loadAt, Instr.sureAddr, loadVar, hag, hsz, hr], cs.toArray, rfl, hca⟩

theorem does_fieldAddr {s : TypeId} {x : Operand} {f : Nat} {ts : List Ty} {fs : Array Field} {fl : Field} {k : Nat} (us : List Ty) (hu : κ.P.underlying s = some (.struct fs)) (hf : fs[f]? = some fl) (hk : ∀ w, (sizeOf fl.type).run κ.P w = .ok (k + 1) w)
    (hx : opTy Γ x = some (Ty.ptr ts)) (hus : us = ts.drop fl.offset) : Does κ ⟨dst, .fieldAddr s x f, ty, pos, after, gd⟩ Γ L (Ty.ptr us) :=
  does_of_run fun L' a w _ _ he => by
    obtain ⟨ad, h1, hp⟩ := opTy_holds he hx
    refine ⟨.pointer (some (ad.add fl.offset)), ?_, ad.add fl.offset, rfl, by rw [hus]; exact hp.drop _⟩
    simp [execOp, h1, Instr.fieldAt, run_underlying hu, hf, Instr.sureAddr, fieldPlace, hk]

theorem does_field1 {s : TypeId} {x : Operand} {f : Nat} {ts : List Ty} {fs : Array Field} {fl : Field} {T : Ty} (hu : κ.P.underlying s = some (.struct fs)) (hf : fs[f]? = some fl) (hag : ∀ w, (isAgg fl.type).run κ.P w = .ok false w)
    (hx : opTy Γ x = some (Ty.agg ts)) (hT : ts[fl.offset]? = some T) : Does κ ⟨dst, .field s x f, ty, pos, after, gd⟩ Γ L T :=
  does_of_run fun L' a w _ _ he => by
    obtain ⟨cs, h1, hp⟩ := opTy_holds he hx
    obtain ⟨u, hu1, _, hu2⟩ := hp.2 _ _ hT
    exact ⟨u, by simp [execOp, h1, Instr.field, run_underlying hu, hf, asAgg, part, hag, hu1], hu2⟩
theorem does_fieldA {s : TypeId} {x : Operand} {f : Nat} {ts : List Ty} {fs : Array Field} {fl : Field} {sz : Nat} (us : List Ty) (hu : κ.P.underlying s = some (.struct fs)) (hf : fs[f]? = some fl) (hag : ∀ w, (isAgg fl.type).run κ.P w = .ok true w) (hsz : ∀ w, (sizeOf fl.type).run κ.P w = .ok sz w)
    (hx : opTy Γ x = some (Ty.agg ts)) (hT : us = (ts.drop fl.offset).take sz) (hle : Nat.ble (fl.offset + sz) ts.length = true) : Does κ ⟨dst, .field s x f, ty, pos, after, gd⟩ Γ L (Ty.agg us) :=
  does_of_run fun L' a w _ _ he => by
    obtain ⟨cs, h1, hp⟩ := opTy_holds he hx
    have hle' := Nat.le_of_ble_eq_true hle
    refine ⟨.agg (cs.extract fl.offset (fl.offset + sz)), by simp [execOp, h1, Instr.field, run_underlying hu, hf, asAgg, part, hag, hsz], _, rfl, ?_, fun j t ht => ?_⟩
    · have := hp.1
      subst hT; simp; omega
    · subst hT
      rw [List.getElem?_take] at ht
      split at ht
      · rename_i hj
        rw [List.getElem?_drop] at ht
        obtain ⟨u, hu1, hu2⟩ := hp.2 _ _ ht
        refine ⟨u, ?_, hu2⟩
        rw [Array.getElem?_extract]
        rw [if_pos (by have := hp.1; omega)]
        exact hu1
      · cases ht

theorem does_extract {x : Operand} {i : Nat} {ts : List Ty} {T : Ty} (hx : opTy Γ x = some (Ty.tup ts)) (hT : ts[i]? = some T) : Does κ ⟨dst, .extract x i, ty, pos, after, gd⟩ Γ L T :=
  does_of_run fun L' a w _ _ he => by
    obtain ⟨cs, h1, _, hp⟩ := opTy_holds he hx
    obtain ⟨u, hu1, hu2⟩ := hp _ _ hT
    exact ⟨u, by simp [execOp, h1, Instr.extract, hu1], hu2⟩

section slices
variable {α : Type} {sz : Nat} {f : α → List Ty} {l : List α} {t e : TypeId} {x : Operand}
theorem sl_at {M : Fb} {w : World} {v : Value} (h : (tL sz f l).holds M w v) : ∃ A c, v = .slice A l.length c ∧ l.length ≤ c ∧ ∀ i y, l[i]? = some y → (f y).length = sz ∧ ∃ a, A = some a ∧ PtAt M w (a.add (i * sz)) (f y) := by
  obtain ⟨A, c, hv, hc, hp⟩ := h
  simp only [List.length_map] at hv hc
  exact ⟨A, c, hv, hc, fun i y hy => hp i (f y) (by simp [hy])⟩
theorem does_index {i : Operand} {k : IntKind} {n : Int} (y : α) (hu : κ.P.underlying t = some (.slice e)) (hsz : ∀ w, (sizeOf e).run κ.P w = .ok sz w) (hidx : idx l n = some y)
    (hx : opTy Γ x = some (tL sz f l)) (hi : opTy Γ i = some (tK k n)) : Does κ ⟨dst, .indexAddr t x i, ty, pos, after, gd⟩ Γ L (Ty.ptr (f y)) :=
  does_of_run fun L' a w _ _ he => by
    obtain ⟨A, c, hv, hc, hp⟩ := sl_at (opTy_holds he hx)
    have hn : a.eval i = .int k n := opTy_holds he hi
    obtain ⟨h0, h1, h2⟩ := idx_some hidx
    obtain ⟨_, ad, rfl, hpt⟩ := hp _ _ h2
    refine ⟨.pointer (some (ad.add (n.toNat * sz))), ?_, _, rfl, hpt⟩
    simp [execOp, hv, hn, Instr.indexAt, asIntOf, run_underlying hu, h0, h1, hsz]
theorem does_len {tys : Array TypeId} (h0 : tys[0]? = some t) (hu : κ.P.underlying t = some (.slice e)) (hx : opTy Γ x = some (tL sz f l)) : Does κ ⟨dst, .call ⟨.builtin .len, #[x], tys⟩, ty, pos, after, gd⟩ Γ L (tI (l.length : Int)) :=
  does_of_run fun L' a w _ _ he => by
    obtain ⟨A, c, hv, _⟩ := sl_at (opTy_holds he hx)
    exact ⟨_, by simp [execOp, resolve, invoke, builtin, Builtin.len_, hv, h0, run_underlying hu, goInt], rfl⟩

theorem slice_drop {M : Fb} {w : World} {A : Option Addr} {c : Nat} (hp : ∀ i y, l[i]? = some y → (f y).length = sz ∧ ∃ a, A = some a ∧ PtAt M w (a.add (i * sz)) (f y)) (hc : l.length ≤ c) (lo : Nat) (hlo : lo ≤ l.length) :
    (tL sz f (l.drop lo)).holds M w (.slice (if c = lo then A else A.map (·.add (lo * sz))) (l.length - lo) (c - lo)) := by
  refine ⟨(if c = lo then A else A.map (·.add (lo * sz))), c - lo, by simp, by simp; omega, fun i es hi => ?_⟩
  simp only [List.getElem?_map, List.getElem?_drop, Option.map_eq_some_iff] at hi
  obtain ⟨y, hy, rfl⟩ := hi
  obtain ⟨h1, a, rfl, hq⟩ := hp _ _ hy
  have : lo + i < l.length := (List.getElem?_eq_some_iff.1 hy).1
  rw [if_neg (by omega)]
  refine ⟨h1, a.add (lo * sz), rfl, ?_⟩
  rw [add_add, ← Nat.add_mul]
  exact hq
theorem slice_take {M : Fb} {w : World} {A : Option Addr} {c : Nat} (hp : ∀ i y, l[i]? = some y → (f y).length = sz ∧ ∃ a, A = some a ∧ PtAt M w (a.add (i * sz)) (f y)) (hc : l.length ≤ c) (hi : Nat) (hhi : hi ≤ l.length) :
    (∀ i y, (l.take hi)[i]? = some y → (f y).length = sz ∧ ∃ a, A = some a ∧ PtAt M w (a.add (i * sz)) (f y)) := by
  intro i y hy
  rw [List.getElem?_take] at hy
  split at hy
  · exact hp i y hy
  · cases hy
/-- xs[lo:] -/
def subLo {α : Type} (l : List α) (lo : Int) : Option (List α) := if 0 ≤ lo ∧ lo ≤ l.length then some (l.drop lo.toNat) else none
def subHi {α : Type} (l : List α) (hi : Int) : Option (List α) := if 0 ≤ hi ∧ hi ≤ l.length then some (l.take hi.toNat) else none
def subLoHi {α : Type} (l : List α) (lo hi : Int) : Option (List α) := if 0 ≤ lo ∧ lo ≤ hi ∧ hi ≤ l.length then some ((l.take hi.toNat).drop lo.toNat) else none
theorem does_subLo {lo : Operand} {k : IntKind} {n : Int} (r : List α) (hr : subLo l n = some r) (hu : κ.P.underlying t = some (.slice e)) (hsz : ∀ w, (sizeOf e).run κ.P w = .ok sz w)
    (hx : opTy Γ x = some (tL sz f l)) (hl : opTy Γ lo = some (tK k n)) : Does κ ⟨dst, .slice t x (some lo) none none, ty, pos, after, gd⟩ Γ L (tL sz f r) :=
  does_of_run fun L' a w _ _ he => by
    obtain ⟨A, c, hv, hc, hp⟩ := sl_at (opTy_holds he hx)
    have hn : a.eval lo = .int k n := opTy_holds he hl
    unfold subLo at hr
    split at hr
    · rename_i hb
      cases hr
      refine ⟨_, ?_, slice_drop hp hc n.toNat (by omega)⟩
      simp [execOp, hv, hn, Instr.sliceAt, Instr.slice, run_underlying hu, Instr.sliceBounds, Instr.sliceBound, asIntOf, hb.1, hb.2, hsz]
    · cases hr
theorem does_subHi {hi : Operand} {k : IntKind} {n : Int} (r : List α) (hr : subHi l n = some r) (hu : κ.P.underlying t = some (.slice e)) (hsz : ∀ w, (sizeOf e).run κ.P w = .ok sz w)
    (hx : opTy Γ x = some (tL sz f l)) (hl : opTy Γ hi = some (tK k n)) : Does κ ⟨dst, .slice t x none (some hi) none, ty, pos, after, gd⟩ Γ L (tL sz f r) :=
  does_of_run fun L' a w _ _ he => by
    obtain ⟨A, c, hv, hc, hp⟩ := sl_at (opTy_holds he hx)
    have hn : a.eval hi = .int k n := opTy_holds he hl
    unfold subHi at hr
    split at hr
    · rename_i hb
      cases hr
      have h3 : n ≤ c := by omega
      have h4 := slice_drop (slice_take hp hc n.toNat (by omega)) (c := c) (by simp; omega) 0 (by omega)
      have h5 : (l.take n.toNat).length = n.toNat := by simp; omega
      rw [List.drop_zero, h5] at h4
      simp only [Nat.sub_zero, Nat.zero_mul] at h4
      refine ⟨.slice (if c = 0 then A else A.map (·.add 0)) n.toNat c, ?_, h4⟩
      simp [execOp, hv, hn, Instr.sliceAt, Instr.slice, run_underlying hu, Instr.sliceBounds, Instr.sliceBound, asIntOf, hb.1, h3, hsz]
    · cases hr
theorem does_subLoHi {lo hi : Operand} {k k2 : IntKind} {m n : Int} (r : List α) (hr : subLoHi l m n = some r) (hu : κ.P.underlying t = some (.slice e)) (hsz : ∀ w, (sizeOf e).run κ.P w = .ok sz w)
    (hx : opTy Γ x = some (tL sz f l)) (hl : opTy Γ lo = some (tK k m)) (hh : opTy Γ hi = some (tK k2 n)) : Does κ ⟨dst, .slice t x (some lo) (some hi) none, ty, pos, after, gd⟩ Γ L (tL sz f r) :=
  does_of_run fun L' a w _ _ he => by
    obtain ⟨A, c, hv, hc, hp⟩ := sl_at (opTy_holds he hx)
    have hm : a.eval lo = .int k m := opTy_holds he hl
    have hn : a.eval hi = .int k2 n := opTy_holds he hh
    unfold subLoHi at hr
    split at hr
    · rename_i hb
      cases hr
      have h3 : n ≤ c := by omega
      have h6 : 0 ≤ n := by omega
      have h7 : m ≤ (n.toNat : Int) := by omega
      have h4 := slice_drop (slice_take hp hc n.toNat (by omega)) (c := c) (by simp; omega) m.toNat (by simp; omega)
      have h5 : (l.take n.toNat).length = n.toNat := by simp; omega
      rw [h5] at h4
      refine ⟨_, ?_, h4⟩
      simp [execOp, hv, hm, hn, Instr.sliceAt, Instr.slice, run_underlying hu, Instr.sliceBounds, Instr.sliceBound, asIntOf, hb.1, h3, h6, h7, hsz]
      omega
    · cases hr
end slices
end
end Go.Proofs.YtocfnpnnbmicmaaDoor.Tc
