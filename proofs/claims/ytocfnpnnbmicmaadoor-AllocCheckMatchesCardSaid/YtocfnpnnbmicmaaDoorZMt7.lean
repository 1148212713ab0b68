/- The plain laws: what the pure functions come to. -/
import Derived.Test.YtocfnpnnbmicmaaDoorZMt6
section
set_option linter.unusedVariables false
set_option linter.unusedSimpArgs false
namespace Go.Proofs.YtocfnpnnbmicmaaDoor.Tc
open Go
theorem owns_get {l : List Int} {sp : List Bool} {loc : List Location} {r m : Nat} (h : m < 5) : (owns l sp loc r)[m]? = some (own l sp loc r m) := by
 unfold owns; rw [List.getElem?_map, List.getElem?_range h]; rfl
theorem owns_len (l : List Int) (sp : List Bool) (loc : List Location) (r : Nat) : (owns l sp loc r).length = 5 := by simp [owns]
theorem own_neg {l : List Int} {sp : List Bool} {loc : List Location} {r : Nat} {m : Int} (hl : ∀ y, y ∈ l → 0 ≤ y) (h : own l sp loc r m < 0) : ∀ y, y ∈ l → y < (r : Int) → isSp sp y = false → (locL loc y).Index ≠ m := by
 unfold own at h
 cases hf : l.find? (owP sp loc r m) with
 | some y => rw [hf] at h; have := hl y (List.mem_of_find?_eq_some hf); simp at h; omega
 | none =>
  intro y hy h1 h2 h3
  have := List.find?_eq_none.1 hf y hy
  apply this
  unfold owP
  simp [h1, h2, h3]
theorem own_pos {l : List Int} {sp : List Bool} {loc : List Location} {r : Nat} {m : Int} (h : 0 ≤ own l sp loc r m) : own l sp loc r m ∈ l ∧ own l sp loc r m < (r : Int) ∧ isSp sp (own l sp loc r m) = false ∧ (locL loc (own l sp loc r m)).Index = m := by
 unfold own at h ⊢
 cases hf : l.find? (owP sp loc r m) with
 | none => rw [hf] at h; simp at h
 | some y =>
  have h1 := List.mem_of_find?_eq_some hf
  have h2 := List.find?_some hf
  unfold owP at h2
  simp only [Bool.and_eq_true, decide_eq_true_eq, Bool.not_eq_true', beq_iff_eq] at h2
  exact ⟨h1, h2.1.1, h2.1.2, h2.2⟩
structure C3 (c : VFunc) (r : Nat) (q : AState × List Location) : Prop where
 s : SI c q.1
 l : q.2.length = c.Regs.toNat
 a : ∀ x, x ∈ AC c → isSp q.1.sp x = true
 k : ∀ y : Nat, y < r → isSp q.1.sp (y : Int) = false → ∃ m : Nat, m < 5 ∧ locL q.2 (y : Int) = ⟨false, (m : Int)⟩
 d : ∀ y z : Nat, y < r → z < r → isSp q.1.sp (y : Int) = false → isSp q.1.sp (z : Int) = false → (y : Int) ∈ IF c z → (locL q.2 (y : Int)).Index ≠ (locL q.2 (z : Int)).Index
 j : JL c q.1.sp q.2 r q.1.ss
theorem C3.step {c : VFunc} (h : Vd c) {r : Nat} (hr : r < c.Regs.toNat) {q : AState × List Location} (hq : C3 c r q) : C3 c (r + 1) (col c q r) := by
 have g := gr_IF h
 have hsl := hq.s.l
 have hl := hq.l
 have hpos : ∀ y, y ∈ IF c r → 0 ≤ y := fun y hy => ((g.s r).r y hy).1
 unfold col
 cases hsp : isSp q.1.sp (r : Int) with
 | true =>
  rw [if_pos rfl]
  refine ⟨hq.s, hl, hq.a, fun y hy hu => ?_, fun y z hy hz hu hv => ?_, hq.j.mono (by omega) fun y h0 h1 h2 => ⟨h2, rfl⟩⟩
  ·have : y ≠ r := fun e => by rw [e, hsp] at hu; cases hu
   exact hq.k y (by omega) hu
  ·have : y ≠ r := fun e => by rw [e, hsp] at hu; cases hu
   have : z ≠ r := fun e => by rw [e, hsp] at hv; cases hv
   exact hq.d y z (by omega) (by omega) hu hv
 | false =>
  rw [if_neg (by simp)]
  cases hf : frM (IF c r) q.1.sp q.2 r with
  | some m =>
   unfold frM at hf
   have hm := List.mem_range.1 (List.mem_of_find?_eq_some hf)
   have hneg : own (IF c r) q.1.sp q.2 r (m : Int) < 0 := by have := List.find?_some hf; simpa using this
   have hno := own_neg hpos hneg
   have hset : ∀ y : Nat, locL (q.2.set r ⟨false, (m : Int)⟩) (y : Int) = if y = r then ⟨false, (m : Int)⟩ else locL q.2 (y : Int) := fun y => locL_set (by omega)
   refine ⟨hq.s, by simp [hl], hq.a, fun y hy hu => ?_, fun y z hy hz hu hv hyz => ?_, hq.j.mono (by omega) fun y h0 h1 h2 => ⟨h2, ?_⟩⟩
   ·show ∃ m : Nat, m < 5 ∧ locL (q.2.set r _) _ = _
    rw [hset]
    by_cases e : y = r
    ·exact ⟨m, hm, by rw [if_pos e]⟩
    ·rw [if_neg e]; exact hq.k y (by omega) hu
   ·show (locL (q.2.set r _) _).Index ≠ (locL (q.2.set r _) _).Index
    rw [hset, hset]
    by_cases e : y = r
    ·subst e
     rw [if_pos rfl]
     by_cases e2 : z = y
     ·subst e2; exact absurd hyz (g.i z)
     ·rw [if_neg e2]
      have := hno z (g.y _ _ hyz) (by omega) hv
      exact fun q => this q.symm
    ·rw [if_neg e]
     by_cases e2 : z = r
     ·subst e2; rw [if_pos rfl]; exact hno y hyz (by omega) hu
     ·rw [if_neg e2]; exact hq.d y z (by omega) (by omega) hu hv hyz
   ·have := hset y.toNat
    rw [show ((y.toNat : Nat) : Int) = y by omega] at this
    show locL (q.2.set r _) y = _
    rw [this, if_neg (by omega)]
  | none =>
   unfold frM at hf
   have hown : ∀ m : Nat, m < 5 → 0 ≤ own (IF c r) q.1.sp q.2 r m := fun m hm => by
    have := List.find?_eq_none.1 hf m (List.mem_range.2 hm)
    simpa using this
   have hs' := hq.s.spl (x := ⟨r, 3, 0, 0, owns (IF c r) q.1.sp q.2 r⟩) (show (0 : Int) ≤ r by omega) (show (r : Int) < c.Regs by omega) hsp
   have hset : ∀ y : Int, 0 ≤ y → isSp (q.1.sp.set r true) y = (isSp q.1.sp y || y == (r : Int)) := fun y hy => by
    have := isSp_set (sp := q.1.sp) (x := (r : Int)) (r := y) (by omega) (by omega) hy
    simpa using this
   have hback : ∀ y : Int, 0 ≤ y → isSp (q.1.sp.set r true) y = false → isSp q.1.sp y = false ∧ y ≠ r := fun y hy hu => by
    rw [hset y hy, Bool.or_eq_false_iff, beq_eq_false_iff_ne] at hu; exact hu
   refine ⟨hs', hl, fun x hx => ?_, fun y hy hu => ?_, fun y z hy hz hu hv hyz => ?_, ?_⟩
   ·have hxr := (ev_racross h).2.r x hx
    show isSp (q.1.sp.set r true) x = true
    rw [hset x hxr.1, hq.a x hx]; rfl
   ·have hb := hback y (by omega) hu
    exact hq.k y (by omega) hb.1
   ·have hb := hback y (by omega) hu
    have hb2 := hback z (by omega) hv
    exact hq.d y z (by omega) (by omega) hb.1 hb2.1 hyz
   ·have hm : ∀ y : Int, 0 ≤ y → y < r → isSp q.1.sp y = false → isSp (q.1.sp.set r true) y = false := fun y h0 h1 h2 => by
     rw [hset y h0, h2]; simp; omega
    refine JL.snoc (hq.j.mono (by omega) fun y h0 h1 h2 => ⟨hm y h0 h1 h2, rfl⟩) (.colr rfl rfl rfl (owns_len _ _ _ _) fun m y hy => ?_)
    have hm5 : m < 5 := by
     have := (List.getElem?_eq_some_iff.1 hy).1
     rw [owns_len] at this; exact this
    rw [owns_get hm5] at hy
    have hy := Option.some.inj hy
    have h0 := hown m hm5
    obtain ⟨h1, h2, h3, h4⟩ := own_pos h0
    rw [hy] at h0 h1 h2 h3 h4
    refine ⟨by simpa using h1, h0, by omega, hm y h0 h2 h3, ?_⟩
    obtain ⟨m', _, e⟩ := hq.k y.toNat (by omega) (by rw [show ((y.toNat : Nat) : Int) = y by omega]; exact h3)
    rw [show ((y.toNat : Nat) : Int) = y by omega] at e
    rw [e] at h4 ⊢
    rw [show ((m' : Nat) : Int) = m from h4]
theorem c3_fin {c : VFunc} (h : Vd c) : C3 c c.Regs.toNat (fin3 c) := by
 obtain ⟨h1, h2, h3⟩ := ph2_ok h
 unfold fin3 ph3
 exact foldl_rng (P := C3 c) c.Regs.toNat (fun i a hi ha => ha.step h hi) ⟨h1, by simp [loc0], h2, fun y hy => by omega, fun y z hy => by omega, h3 _ _ _⟩
structure C4 (c : VFunc) (sp : List Bool) (loc : List Location) (r : Nat) (q : List Location × Int) : Prop where
 l : q.1.length = c.Regs.toNat
 k : ∀ y : Nat, (r ≤ y ∨ isSp sp (y : Int) = false) → locL q.1 (y : Int) = locL loc (y : Int)
 s : ∀ y : Nat, y < r → isSp sp (y : Int) = true → ∃ j, locL q.1 (y : Int) = ⟨true, j⟩ ∧ c.Params ≤ j ∧ j < q.2
 d : ∀ y z : Nat, y < r → z < r → y ≠ z → isSp sp (y : Int) = true → isSp sp (z : Int) = true → (locL q.1 (y : Int)).Index ≠ (locL q.1 (z : Int)).Index
 b : c.Params ≤ q.2 ∧ q.2 ≤ c.Params + r
theorem C4.step {c : VFunc} {sp : List Bool} {loc : List Location} {r : Nat} (hr : r < c.Regs.toNat) {q : List Location × Int} (hq : C4 c sp loc r q) : C4 c sp loc (r + 1) (slo sp q r) := by
 have hl := hq.l
 have hb := hq.b
 unfold slo
 cases hsp : isSp sp (r : Int) with
 | false =>
  rw [if_neg (by simp)]
  refine ⟨hl, fun y hy => hq.k y (by rcases hy with q | q; exact .inl (by omega); exact .inr q), fun y hy hu => ?_, fun y z hy hz hne hu hv => ?_, by omega⟩
  ·have : y ≠ r := fun e => by rw [e, hsp] at hu; cases hu
   exact hq.s y (by omega) hu
  ·have : y ≠ r := fun e => by rw [e, hsp] at hu; cases hu
   have : z ≠ r := fun e => by rw [e, hsp] at hv; cases hv
   exact hq.d y z (by omega) (by omega) hne hu hv
 | true =>
  rw [if_pos rfl]
  have hset : ∀ y : Nat, locL (q.1.set r ⟨true, q.2⟩) (y : Int) = if y = r then ⟨true, q.2⟩ else locL q.1 (y : Int) := fun y => locL_set (by omega)
  refine ⟨by simp [hl], fun y hy => ?_, fun y hy hu => ?_, fun y z hy hz hne hu hv => ?_, by show _ ≤ q.2 + 1 ∧ q.2 + 1 ≤ _; omega⟩
  ·have : y ≠ r := fun e => by rw [e, hsp] at hy; rcases hy with q | q; omega; cases q
   show locL (q.1.set r _) _ = _
   rw [hset, if_neg this]
   exact hq.k y (by rcases hy with q | q; exact .inl (by omega); exact .inr q)
  ·show ∃ j, locL (q.1.set r _) _ = _ ∧ _ ∧ j < q.2 + 1
   rw [hset]
   by_cases e : y = r
   ·exact ⟨q.2, by rw [if_pos e], hb.1, by omega⟩
   ·rw [if_neg e]
    obtain ⟨j, h1, h2, h3⟩ := hq.s y (by omega) hu
    exact ⟨j, h1, h2, by omega⟩
  ·show (locL (q.1.set r _) _).Index ≠ (locL (q.1.set r _) _).Index
   rw [hset, hset]
   by_cases e : y = r
   ·rw [if_pos e, if_neg (by omega)]
    obtain ⟨j, h1, h2, h3⟩ := hq.s z (by omega) hv
    rw [h1]; show q.2 ≠ j; omega
   ·rw [if_neg e]
    by_cases e2 : z = r
    ·rw [if_pos e2]
     obtain ⟨j, h1, h2, h3⟩ := hq.s y (by omega) hu
     rw [h1]; show j ≠ q.2; omega
    ·rw [if_neg e2]; exact hq.d y z (by omega) (by omega) hne hu hv
theorem c4_fin {c : VFunc} (h : Vd c) : C4 c (fin3 c).1.sp (fin3 c).2 c.Regs.toNat (fin4 c) := by
 have h3 := c3_fin h
 unfold fin4 ph4
 exact foldl_rng (P := C4 c (fin3 c).1.sp (fin3 c).2) c.Regs.toNat (fun i a hi ha => ha.step hi) ⟨h3.l, fun y hy => rfl, fun y hy => by omega, fun y z hy => by omega, by show _ ≤ c.Params ∧ c.Params ≤ _; omega⟩
structure Alc (c : VFunc) (a : Allocation) : Prop where
 l : a.Locations.length = c.Regs.toNat
 s : c.Params ≤ a.Slots ∧ a.Slots ≤ c.Params + c.Regs
 n : (a.Spills.map Spill.Reg).Nodup
 g : ∀ x, x ∈ a.Spills → 0 ≤ x.Reg ∧ x.Reg < c.Regs
 i : ∀ r : Int, 0 ≤ r → r < c.Regs → ((locA a r).InSlot = true ↔ r ∈ a.Spills.map Spill.Reg)
 k : ∀ r : Int, 0 ≤ r → r < c.Regs → slotT c a (locA a r) = true
 d : ∀ (r : Nat) (y : Int), r < c.Regs.toNat → y ∈ IF c r → sameL (locA a (r : Int)) (locA a y) = false
 w : ∀ x, x ∈ AC c → (locA a x).InSlot = true
 j : ∀ pre x post, a.Spills = pre ++ x :: post → Jst c (fin3 c).1.sp a.Locations c.Regs.toNat (pre.map Spill.Reg) x
theorem alc {c : VFunc} (h : Vd c) : Alc c (ALa c) := by
 have h3 := c3_fin h
 have h4 := c4_fin h
 have g := gr_IF h
 have hr0 := h.h.r0
 have hloc : ∀ y : Nat, locA (ALa c) (y : Int) = locL (fin4 c).1 (y : Int) := fun y => rfl
 have hun : ∀ y : Nat, y < c.Regs.toNat → isSp (fin3 c).1.sp (y : Int) = false → ∃ m : Nat, m < 5 ∧ locA (ALa c) (y : Int) = ⟨false, (m : Int)⟩ := fun y hy hu => by
  obtain ⟨m, h5, h6⟩ := h3.k y hy hu
  exact ⟨m, h5, by rw [hloc, h4.k y (.inr hu)]; exact h6⟩
 have hin : ∀ y : Nat, y < c.Regs.toNat → isSp (fin3 c).1.sp (y : Int) = true → ∃ j, locA (ALa c) (y : Int) = ⟨true, j⟩ ∧ c.Params ≤ j ∧ j < (ALa c).Slots := fun y hy hu => h4.s y hy hu
 have hnat : ∀ r : Int, 0 ≤ r → ((r.toNat : Nat) : Int) = r := fun r hr => by omega
 have hi : ∀ r : Int, 0 ≤ r → r < c.Regs → ((locA (ALa c) r).InSlot = true ↔ r ∈ (ALa c).Spills.map Spill.Reg) := fun r r0 r1 => by
  rw [show (ALa c).Spills = (fin3 c).1.ss from rfl, ← h3.s.m r r0]
  cases hu : isSp (fin3 c).1.sp r with
  | true =>
   obtain ⟨j, e, _⟩ := hin r.toNat (by omega) (by rw [hnat r r0]; exact hu)
   rw [hnat r r0] at e
   rw [e]
  | false =>
   obtain ⟨m, _, e⟩ := hun r.toNat (by omega) (by rw [hnat r r0]; exact hu)
   rw [hnat r r0] at e
   rw [e]
 refine ⟨h4.l, ?_, h3.s.d, h3.s.g, hi, fun r r0 r1 => ?_, fun r y hr hy => ?_, fun x hx => ?_, ?_⟩
 ·have hb := h4.b
  show c.Params ≤ (fin4 c).2 ∧ (fin4 c).2 ≤ _
  omega
 ·unfold slotT
  cases hu : isSp (fin3 c).1.sp r with
  | true =>
   obtain ⟨j, e, h5, h6⟩ := hin r.toNat (by omega) (by rw [hnat r r0]; exact hu)
   rw [hnat r r0] at e
   rw [e, if_pos rfl]
   show (!(decide (j < c.Params) || decide (j ≥ (ALa c).Slots))) = true
   simp; omega
  | false =>
   obtain ⟨m, h5, e⟩ := hun r.toNat (by omega) (by rw [hnat r r0]; exact hu)
   rw [hnat r r0] at e
   rw [e, if_neg (by simp)]
   show (!(decide ((m : Int) < 0) || decide ((m : Int) ≥ 5))) = true
   simp; omega
 ·have hyr := (g.s r).r y hy
  have hne : r ≠ y.toNat := fun e => g.i r (by rw [e, hnat y hyr.1]; rw [e] at hy; exact hy)
  have hys : ((y.toNat : Nat) : Int) ∈ IF c r := by rw [hnat y hyr.1]; exact hy
  rw [← hnat y hyr.1]
  unfold sameL
  cases hu : isSp (fin3 c).1.sp (r : Int) with
  | true =>
   obtain ⟨j, e, _⟩ := hin r hr hu
   cases hv : isSp (fin3 c).1.sp ((y.toNat : Nat) : Int) with
   | true =>
    have := h4.d r y.toNat hr (by omega) hne hu hv
    rw [← hloc, ← hloc] at this
    have e2 : ((locA (ALa c) (r : Int)).Index == (locA (ALa c) ((y.toNat : Nat) : Int)).Index) = false := by simpa using this
    rw [e2, Bool.and_false]
   | false =>
    obtain ⟨m, _, e2⟩ := hun y.toNat (by omega) hv
    rw [e, e2]; rfl
  | false =>
   obtain ⟨m, h5, e⟩ := hun r hr hu
   cases hv : isSp (fin3 c).1.sp ((y.toNat : Nat) : Int) with
   | true =>
    obtain ⟨j, e2, _⟩ := hin y.toNat (by omega) hv
    rw [e, e2]; rfl
   | false =>
    have := h3.d y.toNat r (by omega) hr hv hu hys
    rw [← h4.k r (.inr hu), ← h4.k y.toNat (.inr hv), ← hloc, ← hloc] at this
    have e2 : ((locA (ALa c) (r : Int)).Index == (locA (ALa c) ((y.toNat : Nat) : Int)).Index) = false := by
     rw [beq_eq_false_iff_ne]; exact fun q => this q.symm
    rw [e2, Bool.and_false]
 ·have hxr := (ev_racross h).2.r x hx
  rw [hi x hxr.1 hxr.2, show (ALa c).Spills = (fin3 c).1.ss from rfl, ← h3.s.m x hxr.1]
  exact h3.a x hx
 ·refine h3.j.mono (Nat.le_refl _) fun y h0 h1 h2 => ⟨h2, ?_⟩
  have := h4.k y.toNat (.inr (by rw [hnat y h0]; exact h2))
  rw [hnat y h0] at this
  exact this
end Go.Proofs.YtocfnpnnbmicmaaDoor.Tc
end
section
set_option linter.unusedVariables false
set_option linter.unusedSimpArgs false
namespace Go.Proofs.YtocfnpnnbmicmaaDoor.Tc
open Go
def ptB (c : VFunc) (k i : Int) (n : Int) : Bool := (decide (0 ≤ k) && decide (k < (c.Blocks.length : Int))) && (decide (0 ≤ i) && decide (i < ((bk c k.toNat).Instrs.length : Int) + n))
noncomputable def lpA (c : VFunc) (k i : Int) : List Int := lp (bk c k.toNat) (LO c k.toNat) i.toNat
noncomputable def callB (c : VFunc) (s : Spill) : Bool := ptB c s.Block s.Index 0 && (decide (s.Others.length = 0) && (acv (iAt (bk c s.Block.toNat) s.Index.toNat) (lpA c s.Block (s.Index + 1))).contains s.Reg)
def ascB (l : List Int) : Bool := (List.range (l.length - 1)).all (fun i => decide (l.getD i 0 < l.getD (i + 1) 0))
noncomputable def presB (c : VFunc) (e : List Int) (s : Spill) : Bool := ptB c s.Block s.Index 1 && (decide (5 ≤ s.Others.length) && ((lpA c s.Block s.Index).contains s.Reg && (s.Others.all (fun y => (lpA c s.Block s.Index).contains y && !(e.contains y)) && (ascB s.Others && !(s.Others.contains s.Reg)))))
noncomputable def colrB (c : VFunc) (a : Allocation) (s : Spill) : Bool := ((s.Block == 0) && (s.Index == 0)) && (decide (s.Others.length = 5) && (List.range s.Others.length).all (fun k => (IF c s.Reg.toNat).contains (s.Others.getD k 0) && sameL (locA a (s.Others.getD k 0)) ⟨false, (k : Int)⟩))
noncomputable def rsnB (c : VFunc) (a : Allocation) (e : List Int) (s : Spill) : Bool := if s.Reason == 1 then callB c s else if s.Reason == 2 then presB c e s else if s.Reason == 3 then colrB c a s else false
def regOk (c : VFunc) (a : Allocation) (e : List Int) (s : Spill) : Bool := ((decide (0 ≤ s.Reg) && decide (s.Reg < c.Regs)) && !(e.contains s.Reg)) && (locA a s.Reg).InSlot
noncomputable def okS (c : VFunc) (a : Allocation) (e : List Int) (s : Spill) : Bool := regOk c a e s && rsnB c a e s
noncomputable def allS (c : VFunc) (a : Allocation) : List Int → List Spill → Bool
 | _, [] => true
 | e, s :: l => okS c a e s && allS c a (e ++ [s.Reg]) l
def slotsB (c : VFunc) (a : Allocation) : Bool := (List.range c.Regs.toNat).all (fun r : Nat => !(locA a (r : Int)).InSlot || (a.Spills.map Spill.Reg).contains (r : Int))
noncomputable def JB (c : VFunc) (a : Allocation) : Bool := decide ((a.Locations.length : Int) = c.Regs) && (allS c a [] a.Spills && slotsB c a)
theorem allS_to {c : VFunc} {a : Allocation} : ∀ (l : List Spill) (e : List Int), allS c a e l = true → ∀ pre x post, l = pre ++ x :: post → okS c a (e ++ pre.map Spill.Reg) x = true := by
 intro l
 induction l with
 | nil => intro e _ pre x post q; simp at q
 | cons x l ih =>
  intro e h pre y post q
  rw [allS, Bool.and_eq_true] at h
  cases pre with
  | nil => simp at q; simpa [q.1] using h.1
  | cons z pre =>
   simp only [List.cons_append, List.cons.injEq] at q
   have := ih _ h.2 pre y post q.2
   rw [q.1] at this
   simpa using this
theorem lpA_eq (c : VFunc) (k i : Nat) : lpA c (k : Int) (i : Int) = lp (bk c k) (LO c k) i := rfl
theorem slots_count {c : VFunc} {a : Allocation} (h0 : 0 ≤ c.Regs) (h : allS c a [] a.Spills = true) : decide ((((List.range c.Regs.toNat).filter (fun r : Nat => (locA a (r : Int)).InSlot)).length : Nat) = a.Spills.length) = slotsB c a := by
 have hok := fun pre x post e => allS_to _ _ h pre x post e
 have hreg : ∀ x, x ∈ a.Spills → 0 ≤ x.Reg ∧ x.Reg < c.Regs ∧ (locA a x.Reg).InSlot = true := fun x hx => by
  obtain ⟨pre, post, e⟩ := List.append_of_mem hx
  have := hok pre x post e
  unfold okS regOk at this
  simp only [Bool.and_eq_true, decide_eq_true_eq] at this
  exact ⟨this.1.1.1.1, this.1.1.1.2, this.1.2⟩
 have hnd : (a.Spills.map Spill.Reg).Nodup := by
  have : ∀ n, n ≤ a.Spills.length → ((a.Spills.take n).map Spill.Reg).Nodup := by
   intro n
   induction n with
   | zero => intro _; simp
   | succ n ih =>
    intro hn
    have hlt : n < a.Spills.length := hn
    have hsplit : a.Spills = a.Spills.take n ++ a.Spills[n] :: a.Spills.drop (n + 1) := by
     rw [← List.drop_eq_getElem_cons hlt, List.take_append_drop]
    have := hok _ _ _ hsplit
    unfold okS regOk at this
    simp only [Bool.and_eq_true, Bool.not_eq_true', List.nil_append] at this
    have hne : a.Spills[n].Reg ∉ (a.Spills.take n).map Spill.Reg := by simpa using this.1.1.2
    rw [List.take_succ_eq_append_getElem hlt, List.map_append, List.map_cons, List.map_nil, List.nodup_append]
    refine ⟨ih (by omega), by simp, fun x hx y hy e => ?_⟩
    rw [List.mem_singleton.1 hy] at e
    exact hne (e ▸ hx)
  have := this a.Spills.length (Nat.le_refl _)
  rwa [List.take_length] at this
 have hR : ∀ r : Int, r ∈ a.Spills.map Spill.Reg → 0 ≤ r ∧ r < c.Regs ∧ (locA a r).InSlot = true := fun r hr => by
  obtain ⟨x, hx, rfl⟩ := List.mem_map.1 hr
  exact hreg x hx
 have hF : ((List.range c.Regs.toNat).filter (fun r : Nat => (locA a (r : Int)).InSlot)).Nodup := List.Pairwise.filter _ List.nodup_range
 generalize hFl : (List.range c.Regs.toNat).filter (fun r : Nat => (locA a (r : Int)).InSlot) = Fl at hF
 have hFm : ∀ r : Nat, r ∈ Fl ↔ r < c.Regs.toNat ∧ (locA a (r : Int)).InSlot = true := fun r => by rw [← hFl]; simp
 have hmn : ((a.Spills.map Spill.Reg).map Int.toNat).Nodup := by
  rw [List.Nodup, List.pairwise_map]
  refine List.Pairwise.imp_of_mem ?_ hnd
  intro x y hx hy hxy e
  have := hR x hx
  have := hR y hy
  omega
 have hsub : ∀ r, r ∈ (a.Spills.map Spill.Reg).map Int.toNat → r ∈ Fl := fun r hr => by
  obtain ⟨x, hx, rfl⟩ := List.mem_map.1 hr
  have := hR x hx
  rw [hFm, show ((x.toNat : Nat) : Int) = x by omega]
  exact ⟨by omega, this.2.2⟩
 have hle := fun (m l : List Nat) => nodup_le m l
 have hlen : ((a.Spills.map Spill.Reg).map Int.toNat).length = a.Spills.length := by simp
 have l1 := hle _ _ hmn hsub
 rw [Bool.eq_iff_iff, decide_eq_true_iff]
 unfold slotsB
 rw [List.all_eq_true]
 constructor
 ·intro e r hr
  have hr := List.mem_range.1 hr
  cases hs : (locA a (r : Int)).InSlot with
  | false => rfl
  | true =>
   have hin : r ∈ Fl := (hFm r).2 ⟨hr, hs⟩
   by_cases hq : r ∈ (a.Spills.map Spill.Reg).map Int.toNat
   ·obtain ⟨x, hx, e2⟩ := List.mem_map.1 hq
    have := hR x hx
    have : x = (r : Int) := by omega
    subst this
    simpa using hx
   ·have := hle (r :: (a.Spills.map Spill.Reg).map Int.toNat) Fl (List.nodup_cons.2 ⟨hq, hmn⟩) fun x hx => by
     rcases List.mem_cons.1 hx with q | q
     ·rw [q]; exact hin
     ·exact hsub x q
    simp only [List.length_cons] at this
    omega
 ·intro hall
  have := hle Fl ((a.Spills.map Spill.Reg).map Int.toNat) hF fun r hr => by
   obtain ⟨h1, h2⟩ := (hFm r).1 hr
   have := hall r (List.mem_range.2 h1)
   rw [h2] at this
   have hm : (r : Int) ∈ a.Spills.map Spill.Reg := by simpa using this
   exact List.mem_map.2 ⟨_, hm, by simp⟩
  omega
end Go.Proofs.YtocfnpnnbmicmaaDoor.Tc
end
section
set_option linter.unusedVariables false
set_option linter.unusedSimpArgs false
namespace Go.Proofs.YtocfnpnnbmicmaaDoor.Tc
open Go
theorem op13 : (opI 13).ReadsA = false ∧ (opI 13).ReadsB = false ∧ (opI 13).WritesA = true ∧ alw 13 = true := ⟨by kernel_rfl, by kernel_rfl, by kernel_rfl, by kernel_rfl⟩
theorem op38 : (opI 38).ReadsA = false ∧ (opI 38).ReadsB = false ∧ alw 38 = true := ⟨by kernel_rfl, by kernel_rfl, by kernel_rfl⟩
theorem rd_init {v : VInstr} (h : v.Instr.Op = 13 ∨ v.Instr.Op = 38) : rd v = [] ∧ wr v = [v.Instr.A] := by
 unfold rd wr rdRaw
 rcases h with h | h
 ·rw [h, op13.1, op13.2.1, op13.2.2.1, op13.2.2.2]; exact ⟨rfl, rfl⟩
 ·rw [h, op38.1, op38.2.1, op38.2.2]
  refine ⟨rfl, ?_⟩
  have : ((opI 38).WritesA || ((38 : Int) == 6) || ((38 : Int) == 38)) = true := by simp
  rw [this]; rfl
theorem init_foldr {vs : List VInstr} {l : List Int} {x : Int} (h : ∀ v, v ∈ vs → rd v = []) (hx : x ∈ vs.foldr tr l) : ∀ v, v ∈ vs → x ∉ wr v := by
 induction vs with
 | nil => intro v hv; simp at hv
 | cons w vs ih =>
  rcases mem_tr.1 hx with ⟨h1, h2⟩ | h1
  ·intro v hv
   rcases List.mem_cons.1 hv with e | e
   ·rw [e]; exact h2
   ·exact ih (fun v hv => h v (by simp [hv])) h1 v e
  ·rw [h w (by simp)] at h1; simp at h1
theorem LI0_nil {c : VFunc} (h : Vd c) {pre rest : List VInstr} (e : (bk c 0).Instrs = pre ++ rest) (hr : ∀ v, v ∈ pre → rd v = []) (hw : ∀ x : Int, 0 ≤ x → x < c.Regs → ∃ v, v ∈ pre ∧ x ∈ wr v) : LI c 0 = [] := by
 have hb := h.h.b0
 refine List.eq_nil_iff_forall_not_mem.2 fun x hx => ?_
 have hreg := (RS.LI h 0).r x hx
 rw [LI_eq h (by omega)] at hx
 unfold blkIn at hx
 rw [e, List.foldr_append] at hx
 obtain ⟨v, hv, hxw⟩ := hw x hreg.1 hreg.2
 exact init_foldr hr hx v hv hxw
theorem iv0_rd {p : Int} {r : Nat} : rd (iv0 p r) = [] ∧ wr (iv0 p r) = [(r : Int)] := rd_init (v := iv0 p r) (by
 show (if (r : Int) < p then (38 : Int) else 13) = 13 ∨ (if (r : Int) < p then (38 : Int) else 13) = 38
 split
 ·exact .inr rfl
 ·exact .inl rfl)
theorem VF.li0 {p : Int} {c : VFunc} (h : VF p c) : LI c 0 = [] := by
 have h0 := h.p0
 have hr := h.hr
 refine LI0_nil h.vd (pre := (List.range (9 + p.toNat)).map (iv0 p)) (rest := []) (by rw [h.b0]; simp [firstB]) (fun v hv => ?_) fun x hx0 hx1 => ?_
 ·obtain ⟨r, _, rfl⟩ := List.mem_map.1 hv
  exact iv0_rd.1
 ·refine ⟨iv0 p x.toNat, List.mem_map.2 ⟨x.toNat, List.mem_range.2 (by omega), rfl⟩, ?_⟩
  rw [iv0_rd.2]; simp; omega
theorem acv_nil {v : VInstr} (h : v.Instr.Op ≠ 6) (l : List Int) : acv v l = [] := by
 unfold acv
 have : (v.Instr.Op == 6) = false := by simpa using h
 rw [this]; rfl
end Go.Proofs.YtocfnpnnbmicmaaDoor.Tc
end
section
set_option linter.unusedVariables false
set_option linter.unusedSimpArgs false
namespace Go.Proofs.YtocfnpnnbmicmaaDoor.Tc
open Go
theorem ev_foldi {α A S R : Type} (l : List α) (F : Nat → Nat → Int → S → Option R) (fin : S → R) (g : A → α → A) (Rp : Nat → A → S → Prop)
  (hend : ∀ a s, Rp l.length a s → Ev (fun K k => F K k (l.length : Int) s) (fin s))
  (hstep : ∀ (i : Nat) (x : α) (a : A) (s : S), l[i]? = some x → i < l.length → Rp i a s → ∃ s', Rp (i + 1) (g a x) s' ∧ ∀ r, Ev (fun K k => F K k ((i + 1 : Nat) : Int) s') r → Ev (fun K k => F K k (i : Int) s) r) :
  ∀ a s, Rp 0 a s → ∃ s', Rp l.length (l.foldl g a) s' ∧ Ev (fun K k => F K k 0 s) (fin s') := by
 have key : ∀ n i, i + n = l.length → ∀ a s, Rp i a s → ∃ s', Rp l.length ((l.drop i).foldl g a) s' ∧ Ev (fun K k => F K k (i : Int) s) (fin s') := by
  intro n
  induction n with
  | zero =>
   intro i hi a s h
   have : i = l.length := by omega
   subst this
   exact ⟨s, by rw [List.drop_length]; exact h, hend a s h⟩
  | succ n ih =>
   intro i hi a s h
   have hlt : i < l.length := by omega
   obtain ⟨s1, h1, h2⟩ := hstep i l[i] a s (List.getElem?_eq_getElem hlt) hlt h
   obtain ⟨s2, h3, h4⟩ := ih (i + 1) (by omega) _ s1 h1
   exact ⟨s2, by rw [drop_get hlt, List.foldl_cons]; exact h3, h2 _ h4⟩
 intro a s h
 have := key l.length 0 (by omega) a s h
 simpa using this
theorem rng_get {n i x : Nat} (h : (List.range n)[i]? = some x) : x = i ∧ i < n := by
 rcases Nat.lt_or_ge i n with q | q
 ·rw [List.getElem?_range q] at h; exact ⟨(Option.some.inj h).symm, q⟩
 ·rw [List.getElem?_eq_none (by simpa using q)] at h; cases h
def rt (c : VFunc) (st : AState) : Int × Int × (List Block) × (List Int) × (List Bool) × (List Spill) := (c.Params, c.Regs, c.Blocks, UC c, st.sp, st.ss)
theorem rspill_eq {c : VFunc} {w : List Int} {st : AState} {x : Spill} (h0 : 0 ≤ x.Reg) (h1 : x.Reg < st.sp.length) (hl : st.ss.length ≤ 5000) : ref32_allocator_spill (⟨c, st.sp, st.ss, w⟩ : Fullingref32Allocator) x = some ⟨c, (spl st x).sp, (spl st x).ss, w⟩ := by
 unfold ref32_allocator_spill
 rw [isSp_idx h0 h1, Option.bind_some, app_eq (by simp; omega) (by simp; omega)]; rfl
theorem ev_notSp {c : VFunc} (h : Vd c) {a : Fullingref32Allocator} (hl : a.Spilled.length = c.Regs.toNat) {l : List Int} (hr : RS c l) : Ev (fun K _ => ref32_allocator_notSpilled K a l) (unsp a.Spilled l) := by
 have hlen := hr.len h
 have loop : ∀ (m p s : List Int), l = p ++ m → s.length + m.length ≤ 3000 → Ev (fun K k => ref32_allocator_notSpilled_l1 K a l k ((p.length : Int), s)) (s ++ unsp a.Spilled m) := by
  intro m
  induction m with
  | nil =>
   intro p s e _
   refine Ev.step (fun K k => rfl) (Ev.f ?_ ((Ev.some _).cast (by simp [unsp])))
   subst e; simp
  | cons y m ih =>
   intro p s e hs
   have hg : idx l (p.length : Int) = some y := idx_eq (by subst e; simp)
   have hlt : (p.length : Int) < (l.length : Int) := by subst e; simp; omega
   have hw : w64 ((p.length : Int) + 1) = ((p ++ [y]).length : Int) := by
    rw [w64_id (by omega) (by omega)]; simp
   have hy := hr.r y (by subst e; simp)
   simp only [List.length_cons] at hs
   have hsp := isSp_idx (sp := a.Spilled) hy.1 (by omega)
   cases hb : isSp a.Spilled y with
   | true =>
    rw [hb] at hsp
    refine Ev.step (fun K k => rfl) (Ev.t (by simpa using hlt) (Ev.bind (x := s) (Ev.bindO hg (Ev.bindO hsp (Ev.f rfl (Ev.some _)))) ?_))
    simp only [hw]
    refine (ih (p ++ [y]) s (by subst e; simp) (by omega)).cast ?_
    unfold unsp; rw [List.filter_cons, hb]; rfl
   | false =>
    rw [hb] at hsp
    refine Ev.step (fun K k => rfl) (Ev.t (by simpa using hlt) (Ev.bind (x := s ++ [y]) (Ev.bindO hg (Ev.bindO hsp (Ev.t rfl (Ev.bindO hg (Ev.bindO (app_eq (by simp; omega) (by simp; omega)) (Ev.some _)))))) ?_))
    simp only [hw]
    refine (ih (p ++ [y]) (s ++ [y]) (by subst e; simp) (by simp; omega)).cast ?_
    unfold unsp; rw [List.filter_cons, hb]; simp
 unfold ref32_allocator_notSpilled
 exact Ev.bind (Ev.loop (loop l [] [] rfl (by simpa using hlen))) ((Ev.some _).cast (by simp))
theorem fc_at {c : VFunc} (h : Vd c) {r : Int} {b j : Nat} (hb : b < c.Blocks.length) (hj : j < (bk c b).Instrs.length) {R : Unit ⊕ (Unit ⊕ (Int × Int))} (h1 : r ∈ acv (iAt (bk c b) j) (lp (bk c b) (LO c b) (j + 1)) → R = .inr (.inr ((b : Int), (j : Int)))) (h2 : r ∉ acv (iAt (bk c b) j) (lp (bk c b) (LO c b) (j + 1)) → Ev (fun K k => ref32_firstCall_l2 K c r (b : Int) (LPs c b) k ((j + 1 : Nat) : Int)) R) : Ev (fun K k => ref32_firstCall_l2 K c r (b : Int) (LPs c b) k (j : Int)) R := by
 have hlen := h.len hb
 have hv := h.ia hb hj
 have hl := RS.lp (h.iv hb) (h.e hb) (RS.LO h b) (j + 1)
 refine Ev.step (fun K k => rfl) (Ev.bindO (bk_idx hb) (Ev.t (by simpa using hj) (Ev.bindO (bk_idx hb) (Ev.bindO (idx_eq (iAt_get hj)) (Ev.bindO (after_eq hb hj hlen) (Ev.bind (ev_acrossCall h hv hl) (Ev.bind (ev_contains' h (RS.acv hv hl)) ?_)))))))
 refine Ev.cnd (fun hc => ?_) (fun hc => ?_)
 ·rw [h1 (by simpa using hc)]
  exact Ev.out (Ev.out (Ev.some _))
 ·rw [w64_succ (i := j) (by omega)]
  exact h2 (by simpa using hc)
theorem fc_none {c : VFunc} (h : Vd c) {r : Int} {b : Nat} (hb : b < c.Blocks.length) (hn : ∀ i, i < (bk c b).Instrs.length → r ∉ acv (iAt (bk c b) i) (lp (bk c b) (LO c b) (i + 1))) : Ev (fun K k => ref32_firstCall_l2 K c r (b : Int) (LPs c b) k 0) (.inl ()) :=
 upto (P := fun j => Ev (fun K k => ref32_firstCall_l2 K c r (b : Int) (LPs c b) k (j : Int)) (.inl ())) (n := (bk c b).Instrs.length) (Ev.step (fun K k => rfl) (Ev.bindO (bk_idx hb) (Ev.f (by simp) (Ev.inn ())))) fun j hj ih => fc_at h hb hj (fun q => absurd q (hn j hj)) fun _ => ih
theorem fc_hit {c : VFunc} (h : Vd c) {r : Int} {b i : Nat} (hf : Fst c r b i) : Ev (fun K k => ref32_firstCall_l2 K c r (b : Int) (LPs c b) k 0) (.inr (.inr ((b : Int), (i : Int)))) :=
 upto (P := fun j => Ev (fun K k => ref32_firstCall_l2 K c r (b : Int) (LPs c b) k (j : Int)) (.inr (.inr ((b : Int), (i : Int))))) (n := i) (fc_at h hf.hk hf.hi (fun _ => rfl) fun q => absurd hf.m q) fun j hj ih => fc_at h hf.hk (by have := hf.hi; omega) (fun q => absurd q (hf.e b j hf.hk (by have := hf.hi; omega) (.inr ⟨rfl, hj⟩))) fun _ => ih
theorem ev_firstCall {c : VFunc} (h : Vd c) {r : Int} {k i : Nat} (hf : Fst c r k i) : Ev (fun K _ => ref32_firstCall K c r) ((k : Int), (i : Int)) := by
 have hb1 := h.h.b1
 have l1 : Ev (fun K n => ref32_firstCall_l1 K c r n ((0 : Nat) : Int)) (.inr ((k : Int), (i : Int))) := by
  have hk := hf.hk
  refine upto (P := fun b => Ev (fun K n => ref32_firstCall_l1 K c r n (b : Int)) (.inr ((k : Int), (i : Int)))) (n := k) ?_ fun b hb ih => ?_
  ·exact Ev.step (fun K n => rfl) (Ev.t (by simpa using hk) (Ev.bind (ev_rpoints h hk) (Ev.sqr (Ev.loop (fc_hit h hf)))))
  ·refine Ev.step (fun K n => rfl) (Ev.t (by simp; omega) (Ev.bind (ev_rpoints h (by omega)) (Ev.sql (Ev.loop (fc_none h (by omega) fun i' hi' => hf.e b i' (by omega) hi' (.inl hb))) ?_)))
   rw [w64_succ (i := b) (by omega)]; exact ih
 unfold ref32_firstCall
 exact Ev.sqr (Ev.loop l1)
theorem ev_spillCalls {c : VFunc} (h : Vd c) : Ev (fun K _ => ref32_allocator_spillCalls K (⟨c, List.replicate c.Regs.toNat false, [], UC c⟩ : Fullingref32Allocator)) ⟨c, (ph1 c).sp, (ph1 c).ss, UC c⟩ := by
 obtain ⟨e1, hrs⟩ := ev_racross h
 have hlen := hrs.len h
 obtain ⟨s', ⟨rfl, _, _⟩, el⟩ := ev_foldi (AC c) (fun K k i s => ref32_allocator_spillCalls_l1 K (AC c) k (i, s)) id (sp1 c) (fun n st s => s = rt c st ∧ st.sp.length = c.Regs.toNat ∧ st.ss.length ≤ n)
  (fun a s hs => Ev.step (fun K k => rfl) (Ev.f (by simp) (Ev.some _)))
  (fun i x st s hx hi hs => by
   obtain ⟨rfl, hl, hn⟩ := hs
   have hm := List.mem_of_getElem? hx
   have hxr := hrs.r x hm
   obtain ⟨k, j, hf⟩ := fst_ex hm
   have e2 := rspill_eq (c := c) (w := UC c) (st := st) (x := ⟨x, 1, (k : Int), (j : Int), []⟩) hxr.1 (by show x < _; omega) (by omega)
   refine ⟨rt c (sp1 c st x), ⟨rfl, by simp [sp1, spl, hl], by simp [sp1, spl]; omega⟩, fun r hr => Ev.step (fun K k => rfl) (Ev.t (by simpa using hi) (Ev.bindO (idx_eq hx) (Ev.bind (ev_firstCall h hf) (Ev.bindO (idx_eq hx) (Ev.bindO e2 ?_)))))⟩
   have e3 : sp1 c st x = spl st ⟨x, 1, (k : Int), (j : Int), []⟩ := by unfold sp1; rw [fcl_eq hf]
   rw [e3] at hr
   rw [w64_succ (i := i) (by omega)]
   exact hr) ⟨List.replicate c.Regs.toNat false, []⟩ (rt c ⟨List.replicate c.Regs.toNat false, []⟩) ⟨rfl, by simp, by simp⟩
 unfold ref32_allocator_spillCalls
 exact Ev.bind e1 (Ev.bind (Ev.loop el) (Ev.some _))
theorem wt_idx {c : VFunc} (h : Vd c) {n : Int} (h0 : 0 ≤ n) (h1 : n < c.Regs) : idx (UC c) n = some (wt (UC c) n) := by
 have hu : (UC c).length = c.Regs.toNat := by
  unfold UC
  exact foldl_inv (P := fun z : List Int => z.length = c.Regs.toNat) (fun a x _ h => by rw [ucB_len]; exact h) (by simp)
 exact inc_idx h0 (by omega)
theorem prs_si {c : VFunc} (h : Vd c) {w : List Int} {k i n : Nat} {l : List Int} (hl : RS c l) {st : AState} (hs : SI c st) (hn : n = 0 ∨ n + 5 ≤ (unsp st.sp l).length) : SI c (prs w k i n (unsp st.sp l) st) :=
 (prs_inv (P := fun _ => True) hl (fun _ _ _ _ _ _ _ _ _ _ _ => trivial) n _ st (hl.unsp _).s (fun x hx => mem_unsp.1 hx) hn hs trivial).1
theorem bst_step {w : List Int} {y : Int} {t : List Int} : bst w (y :: t) = t.foldl (fun b n => if wt w n ≤ wt w b then n else b) y := by
 unfold bst
 rw [List.foldl_cons]
 congr 1
 show (if wt w y ≤ wt w y then y else y) = y
 split <;> rfl
theorem rpr_l4 {c : VFunc} (h : Vd c) {hh : List Int} (hr : RS c hh) {y : Int} {t : List Int} (e : hh = y :: t) {s : (List Int) × Int × Int × (List Block) × (List Int) × (List Bool) × (List Spill)} (hs1 : s.1 = hh) (hs2 : s.2.2.2.2.1 = UC c) : Ev (fun K k => ref32_allocator_spillPressure_l4 K s k (y, 1)) (bst (UC c) hh) := by
 have hlen := hr.len h
 have key : ∀ n j b, j + n = hh.length → 0 ≤ b → b < c.Regs → Ev (fun K k => ref32_allocator_spillPressure_l4 K s k (b, (j : Int))) ((hh.drop j).foldl (fun b n => if wt (UC c) n ≤ wt (UC c) b then n else b) b) := by
  intro n
  induction n with
  | zero =>
   intro j b hj hb0 hb1
   have : j = hh.length := by omega
   subst this
   refine Ev.step (fun K k => rfl) (Ev.f (by rw [hs1]; simp) ((Ev.some _).cast ?_))
   rw [List.drop_length]; rfl
  | succ n ih =>
   intro j b hj hb0 hb1
   have hlt : j < hh.length := by omega
   have hg : idx s.1 (j : Int) = some hh[j] := by rw [hs1]; exact idx_get hlt
   have hxr := hr.r hh[j] (List.getElem_mem hlt)
   rw [drop_get hlt, List.foldl_cons]
   have w1 : idx s.2.2.2.2.1 hh[j] = some (wt (UC c) hh[j]) := by rw [hs2]; exact wt_idx h hxr.1 hxr.2
   have w2 : idx s.2.2.2.2.1 b = some (wt (UC c) b) := by rw [hs2]; exact wt_idx h hb0 hb1
   refine Ev.step (fun K k => rfl) (Ev.t (by rw [hs1]; simpa using hlt) (Ev.bind (x := if wt (UC c) hh[j] ≤ wt (UC c) b then hh[j] else b) (Ev.bindO hg (Ev.bindO w1 (Ev.bindO w2 ?_))) ?_))
   ·refine Ev.cnd (fun hc => Ev.bindO hg ((Ev.some _).cast ?_)) (fun hc => (Ev.some _).cast ?_)
    ·rw [if_pos (of_decide_eq_true hc)]
    ·rw [if_neg (of_decide_eq_false hc)]
   ·simp only [w64_succ (i := j) (by omega)]
    refine ih (j + 1) _ (by omega) ?_ ?_
    ·split; exact hxr.1; exact hb0
    ·split; exact hxr.2; exact hb1
 have hy := hr.r y (by rw [e]; simp)
 have := key (hh.length - 1) 1 y (by rw [e, List.length_cons]; omega) hy.1 hy.2
 refine Ev.cast this ?_
 rw [e, bst_step]; rfl
theorem rpr_l3 {c : VFunc} (h : Vd c) {k i : Nat} (hk : k < c.Blocks.length) (hi : i ≤ (bk c k).Instrs.length) {s6 s16 : Int × Int × Int × (List Block) × (List Int) × (List Bool) × (List Spill)} (h6 : s6.1 = (k : Int)) (h16 : s16.1 = (i : Int)) : ∀ (n : Nat) (st : AState), SI c st → (n = (unsp st.sp (lp (bk c k) (LO c k) i)).length - 5) →
  Ev (fun K m => ref32_allocator_spillPressure_l3 K s6 (LPs c k) s16 m (unsp st.sp (lp (bk c k) (LO c k) i), rt c st)) (rt c (prs (UC c) k i n (unsp st.sp (lp (bk c k) (LO c k) i)) st)) := by
 have hl := RS.lp (h.iv hk) (h.e hk) (RS.LO h k) i
 intro n
 induction n with
 | zero =>
  intro st hs hn
  exact Ev.step (fun K k => rfl) (Ev.f (by simp; omega) (Ev.some _))
 | succ n ih =>
  intro st hs hn
  have hsl := hs.l
  have hss := hs.len h
  have hr1 := h.h.r1
  have hu := hl.unsp st.sp
  have hulen := hu.len h
  generalize hh : unsp st.sp (lp (bk c k) (LO c k) i) = H at hn hu hulen
  obtain ⟨y, t, e⟩ : ∃ y t, H = y :: t := by
   cases H with
   | nil => simp at hn
   | cons y t => exact ⟨y, t, rfl⟩
  have hb : bst (UC c) H ∈ H := bst_mem (by rw [e]; simp)
  have hbr := hu.r _ hb
  have hbu : isSp st.sp (bst (UC c) H) = false := (mem_unsp.1 (hh.symm ▸ hb : bst (UC c) H ∈ unsp st.sp (lp (bk c k) (LO c k) i))).2
  have hmlen := mns_one_len hu.s hb
  have e1 : idx H 0 = some y := by rw [e]; exact idx_eq (i := 0) rfl
  have e3 := rspill_eq (c := c) (w := UC c) (st := st) (x := ⟨bst (UC c) H, 2, (k : Int), (i : Int), mns H [bst (UC c) H]⟩) hbr.1 (by show bst (UC c) H < _; omega) (by omega)
  have hs' := hs.spl (x := ⟨bst (UC c) H, 2, (k : Int), (i : Int), mns H [bst (UC c) H]⟩) hbr.1 hbr.2 hbu
  have e4 := unsp_set hsl hl hbr.1 hbr.2
  rw [hh] at e4
  have e5 : idx (LPs c k) (i : Int) = some (lp (bk c k) (LO c k) i) := idx_eq (by unfold LPs lps; rw [List.getElem?_map, List.getElem?_range (by omega)]; rfl)
  refine Ev.step (fun K k => rfl) (Ev.t (by simp; omega) (Ev.bindO e1 (Ev.bind (Ev.loop (rpr_l4 h hu e rfl rfl)) (Ev.bind (ev_minus (a := H) (b := [bst (UC c) H]) (by unfold Sm; omega) (by simp [Sm])) (Ev.bindO (x := ⟨c, (spl st ⟨bst (UC c) H, 2, (k : Int), (i : Int), mns H [bst (UC c) H]⟩).sp, (spl st ⟨bst (UC c) H, 2, (k : Int), (i : Int), mns H [bst (UC c) H]⟩).ss, UC c⟩) ?_ ?_)))))
  ·rw [h6, h16]; exact e3
  ·rw [h16]
   refine Ev.bindO e5 (Ev.bind (ev_notSp h hs'.l hl) ?_)
   have := ih (spl st ⟨bst (UC c) H, 2, (k : Int), (i : Int), mns H [bst (UC c) H]⟩) hs' (by
    show n = (unsp (st.sp.set (bst (UC c) H).toNat true) _).length - 5
    rw [e4]; omega)
   have e6 : unsp (spl st ⟨bst (UC c) H, 2, (k : Int), (i : Int), mns H [bst (UC c) H]⟩).sp (lp (bk c k) (LO c k) i) = mns H [bst (UC c) H] := e4
   rw [e6] at this ⊢
   exact this
theorem rpr_l2 {c : VFunc} (h : Vd c) {k : Nat} (hk : k < c.Blocks.length) {s6 : Int × Int × Int × (List Block) × (List Int) × (List Bool) × (List Spill)} (h6 : s6.1 = (k : Int)) {st : AState} (hs : SI c st) : Ev (fun K m => ref32_allocator_spillPressure_l2 K s6 (LPs c k) m (0, rt c st)) (rt c (ph2B c (UC c) st k)) ∧ SI c (ph2B c (UC c) st k) := by
 have hlen := h.len hk
 have hL : (LPs c k).length = (bk c k).Instrs.length + 1 := by simp [LPs, lps]
 obtain ⟨s', ⟨rfl, hs'⟩, el⟩ := ev_foldi (List.range ((bk c k).Instrs.length + 1)) (fun K m i s => ref32_allocator_spillPressure_l2 K s6 (LPs c k) m (i, s)) id (ph2P c (UC c) k) (fun n st s => s = rt c st ∧ SI c st)
  (fun a s hs => Ev.step (fun K k => rfl) (Ev.f (by simp [hL]) (Ev.some _)))
  (fun j i st s hx hj hs => by
   obtain ⟨rfl, hj⟩ := rng_get hx
   obtain ⟨rfl, hs⟩ := hs
   have hl := RS.lp (h.iv hk) (h.e hk) (RS.LO h k) i
   have e5 : idx (LPs c k) (i : Int) = some (lp (bk c k) (LO c k) i) := idx_eq (by unfold LPs lps; rw [List.getElem?_map, List.getElem?_range (by omega)]; rfl)
   refine ⟨rt c (ph2P c (UC c) k st i), ⟨rfl, prs_si h hl hs (by omega)⟩, fun r hr => Ev.step (fun K k => rfl) (Ev.t (by simp [hL]; omega) (Ev.bindO e5 (Ev.bind (ev_notSp h hs.l hl) (Ev.bind (Ev.loop (rpr_l3 h hk (by omega) h6 (s16 := ((i : Int), rt c st)) rfl _ st hs rfl)) ?_))))⟩
   rw [w64_succ (i := i) (by omega)]
   exact hr) st (rt c st) ⟨rfl, hs⟩
 exact ⟨el, hs'⟩
theorem ev_spillPressure {c : VFunc} (h : Vd c) {st : AState} (hs : SI c st) : Ev (fun K _ => ref32_allocator_spillPressure K (⟨c, st.sp, st.ss, UC c⟩ : Fullingref32Allocator)) ⟨c, (ph2 c st).sp, (ph2 c st).ss, UC c⟩ := by
 have hb1 := h.h.b1
 obtain ⟨s', ⟨rfl, hs'⟩, el⟩ := ev_foldi (List.range c.Blocks.length) (fun K m i s => ref32_allocator_spillPressure_l1 K m (i, s)) id (ph2B c (UC c)) (fun n st s => s = rt c st ∧ SI c st)
  (fun a s hs => by obtain ⟨rfl, _⟩ := hs; exact Ev.step (fun K k => rfl) (Ev.f (by simp [rt]) (Ev.some _)))
  (fun j i st s hx hj hs => by
   obtain ⟨rfl, hj⟩ := rng_get hx
   obtain ⟨rfl, hs⟩ := hs
   obtain ⟨e1, hs'⟩ := rpr_l2 h hj (s6 := ((i : Int), rt c st)) rfl hs
   refine ⟨rt c (ph2B c (UC c) st i), ⟨rfl, hs'⟩, fun r hr => Ev.step (fun K k => rfl) (Ev.t (by simp [rt]; omega) (Ev.bind (ev_rpoints h hj) (Ev.bind (Ev.loop e1) ?_)))⟩
   rw [w64_succ (i := i) (by omega)]
   exact hr) st (rt c st) ⟨rfl, hs⟩
 unfold ref32_allocator_spillPressure
 exact Ev.bind (Ev.loop el) (Ev.some _)
end Go.Proofs.YtocfnpnnbmicmaaDoor.Tc
end
section
set_option linter.unusedVariables false
set_option linter.unusedSimpArgs false
namespace Go.Proofs.YtocfnpnnbmicmaaDoor.Tc
open Go
theorem frM_some {l : List Int} {sp : List Bool} {loc : List Location} {r m : Nat} (hm : m < 5) (h1 : ∀ j : Nat, j < m → 0 ≤ own l sp loc r j) (h2 : own l sp loc r m < 0) : frM l sp loc r = some m := by
 unfold frM
 rw [List.find?_range_eq_some]
 exact ⟨by simpa using h2, List.mem_range.2 hm, fun j hj => by have := h1 j hj; simp; omega⟩
theorem frM_none {l : List Int} {sp : List Bool} {loc : List Location} {r : Nat} (h1 : ∀ j : Nat, j < 5 → 0 ≤ own l sp loc r j) : frM l sp loc r = none := by
 unfold frM
 rw [List.find?_eq_none]
 intro j hj
 have := h1 j (List.mem_range.1 hj)
 simp; omega
structure HAD (c : VFunc) (had sp : List Bool) (r : Nat) : Prop where
 l : had.length = c.Regs.toNat
 b : ∀ y : Int, 0 ≤ y → y < c.Regs → isSp had y = (decide (y < (r : Int)) && !(isSp sp y))
abbrev RS9 := Int × (List Bool) × (List Location) × Int × Int × (List Block) × (List Int) × (List Bool) × (List Spill)
theorem ral_l3 {c : VFunc} (h : Vd c) {r : Nat} (hr : r < c.Regs.toNat) {sp : List Bool} {loc : List Location} {s37 : RS9} (h1 : s37.1 = (r : Int)) (h2 : HAD c s37.2.1 sp r) (h3 : s37.2.2.1 = loc) (hl : loc.length = c.Regs.toNat) {m : Int} {s58 : Int × List Int} (h58 : s58.1 = m) : Ev (fun K k => ref32_Allocate_l3 K (IFs c) s37 s58 k (-1, ((IF c r).length : Int) - 1)) (own (IF c r) sp loc r m) := by
 have g := gr_IF h
 have hlen := (g.s r).len h
 have hx : idx (IFs c) s37.1 = some (IF c r) := by rw [h1]; exact idx_eq (IFs_get hr)
 have key : ∀ j, j ≤ (IF c r).length → Ev (fun K k => ref32_Allocate_l3 K (IFs c) s37 s58 k ((((IF c r).drop j).find? (owP sp loc r m)).getD (-1), (j : Int) - 1)) (own (IF c r) sp loc r m) := by
  intro j
  induction j with
  | zero => intro _; exact Ev.step (fun K k => rfl) (Ev.f (by simp) ((Ev.some _).cast (by rw [List.drop_zero]; rfl)))
  | succ j ih =>
   intro hj
   have hlt : j < (IF c r).length := hj
   have hidx : ((j + 1 : Nat) : Int) - 1 = (j : Int) := by omega
   have hw : w64 ((j : Int) - 1) = (j : Int) - 1 := w64_id (by omega) (by omega)
   have hy := (g.s r).r _ (List.getElem_mem hlt)
   have e1 := idx_get hlt
   have e2 := isSp_idx (sp := s37.2.1) hy.1 (by rw [h2.l]; omega)
   have e3 := locL_idx (loc := s37.2.2.1) hy.1 (by rw [h3, hl]; omega)
   have hh := h2.b _ hy.1 hy.2
   refine Ev.step (fun K k => rfl) (Ev.t (by simp) ?_)
   simp only [hidx, hw]
   refine Ev.bind (x := (((IF c r).drop j).find? (owP sp loc r m)).getD (-1)) (Ev.bindO hx (Ev.bindO e1 (Ev.bindO e2 (Ev.bind (x := owP sp loc r m (IF c r)[j]) ?_ ?_)))) (ih (by omega))
   ·unfold owP
    rw [← hh]
    cases hc : isSp s37.2.1 (IF c r)[j] with
    | false => exact Ev.f rfl (Ev.some _)
    | true => exact Ev.t rfl (Ev.bindO e3 ((Ev.some _).cast (by rw [h58, h3]; rfl)))
   ·rw [drop_get hlt, List.find?_cons]
    cases owP sp loc r m (IF c r)[j] with
    | true => exact Ev.t rfl (Ev.some _)
    | false => exact Ev.f rfl (Ev.some _)
 have := key (IF c r).length (Nat.le_refl _)
 rw [List.drop_length] at this
 exact this
noncomputable def colR (c : VFunc) (sp had : List Bool) (loc : List Location) (r : Nat) : (List Int) × (List Bool) × (List Location) :=
 match frM (IF c r) sp loc r with
 | some m => ((List.range m).map (fun m : Nat => own (IF c r) sp loc r m), had.set r true, loc.set r ⟨false, (m : Int)⟩)
 | none => (owns (IF c r) sp loc r, had, loc)
theorem ral_l2 {c : VFunc} (h : Vd c) {r : Nat} (hr : r < c.Regs.toNat) {sp had : List Bool} {loc : List Location} {s37 : RS9} (h1 : s37.1 = (r : Int)) (e2 : s37.2.1 = had) (h2 : HAD c had sp r) (h3 : s37.2.2.1 = loc) (hl : loc.length = c.Regs.toNat) : Ev (fun K k => ref32_Allocate_l2 K (IFs c) s37 k (0, [])) (colR c sp had loc r) := by
 have hlen := ((gr_IF h).s r).len h
 have hx : idx (IFs c) s37.1 = some (IF c r) := by rw [h1]; exact idx_eq (IFs_get hr)
 have hw : w64 (((IF c r).length : Int) - 1) = ((IF c r).length : Int) - 1 := w64_id (by omega) (by omega)
 have i2 := isSp_idx (sp := s37.2.1) (r := s37.1) (by omega) (by rw [e2, h2.l]; omega)
 have i3 := locL_idx (loc := s37.2.2.1) (r := s37.1) (by omega) (by rw [h3, hl]; omega)
 have key : ∀ n m : Nat, m + n = 5 → (∀ j : Nat, j < m → 0 ≤ own (IF c r) sp loc r j) → Ev (fun K k => ref32_Allocate_l2 K (IFs c) s37 k ((m : Int), (List.range m).map (fun m : Nat => own (IF c r) sp loc r m))) (colR c sp had loc r) := by
  intro n
  induction n with
  | zero =>
   intro m hm hj
   have : m = 5 := by omega
   subst this
   refine Ev.step (fun K k => rfl) (Ev.f rfl ((Ev.some _).cast ?_))
   unfold colR
   rw [frM_none hj]
   show (_, s37.2.1, s37.2.2.1) = _
   rw [e2, h3]; rfl
  | succ n ih =>
   intro m hm hj
   have e3 := ral_l3 h hr h1 (by rw [e2]; exact h2) h3 hl (m := (m : Int)) (s58 := ((m : Int), (List.range m).map (fun m : Nat => own (IF c r) sp loc r m))) rfl
   refine Ev.step (fun K k => rfl) (Ev.t (by simp; omega) (Ev.bindO hx ?_))
   simp only [hw]
   refine Ev.bind (Ev.loop e3) (Ev.cnd (fun hc => ?_) (fun hc => ?_))
   ·refine Ev.bindO i3 (Ev.bindO i2 ((Ev.some _).cast ?_))
    unfold colR
    rw [frM_some (by omega) hj (of_decide_eq_true hc)]
    show (_, s37.2.1.set s37.1.toNat true, s37.2.2.1.set s37.1.toNat _) = _
    rw [e2, h3, h1, Int.toNat_natCast]
   ·refine Ev.bindO (app_eq (by simp; omega) (by simp; omega)) ?_
    have := ih (m + 1) (by omega) (fun j hj2 => by
     by_cases q : j = m
     ·subst q; have := of_decide_eq_false hc; omega
     ·exact hj j (by omega))
    rw [w64_succ (i := m) (by omega)]
    rw [List.range_succ, List.map_append] at this
    exact this
 exact key 5 0 (by omega) (fun j hj => by omega)
theorem isSp_setN {sp : List Bool} {b : Bool} {x : Nat} (hx : x < sp.length) {r : Int} (hr : 0 ≤ r) : isSp (sp.set x b) r = if r = (x : Int) then b else isSp sp r := by
 unfold isSp
 rw [List.getD_eq_getElem?_getD, List.getD_eq_getElem?_getD]
 by_cases e : r = (x : Int)
 ·subst e; rw [if_pos rfl, Int.toNat_natCast, List.getElem?_set_self hx]; rfl
 ·rw [if_neg e, List.getElem?_set_ne (by omega)]
theorem ral_l1 {c : VFunc} (h : Vd c) {q0 : AState × List Location} (h0 : C3 c 0 q0) : ∃ had, Ev (fun K k => ref32_Allocate_l1 K c (IFs c) k (0, List.replicate c.Regs.toNat false, q0.2, rt c q0.1)) (had, ((List.range c.Regs.toNat).foldl (col c) q0).2, rt c ((List.range c.Regs.toNat).foldl (col c) q0).1) := by
 have hr1 := h.h.r1
 have hr0 := h.h.r0
 obtain ⟨s', ⟨had, rfl, _⟩, el⟩ := ev_foldi (List.range c.Regs.toNat) (fun K k i s => ref32_Allocate_l1 K c (IFs c) k (i, s)) id (col c) (fun r q s => ∃ had, s = (had, q.2, rt c q.1) ∧ HAD c had q.1.sp r ∧ C3 c r q)
  (fun a s hs => Ev.step (fun K k => rfl) (Ev.f (by simp; omega) (Ev.some _)))
  (fun j r q s hx hj hs => by
   obtain ⟨rfl, hj⟩ := rng_get hx
   obtain ⟨had, rfl, hh, h3⟩ := hs
   have hnext := h3.step h hj
   have hl := h3.l
   have hsl := h3.s.l
   have hss := h3.s.len h
   have i1 := isSp_idx (sp := q.1.sp) (r := (r : Int)) (by omega) (by omega)
   have hhr := hh.b (r : Int) (by omega) (by omega)
   have hhr : isSp had (r : Int) = false := by rw [hhr]; simp
   have i2 := isSp_idx (sp := had) (r := (r : Int)) (by omega) (by rw [hh.l]; omega)
   have key : ∃ had', HAD c had' (col c q r).1.sp (r + 1) ∧ ∀ K0 : Unit, Ev (fun (K k : Nat) => Option.bind (idx q.1.sp (r : Int)) (fun y45 => (cnd y45 (some (had, q.2, rt c q.1)) (Option.bind (Option.bind (ref32_Allocate_l2 K (IFs c) ((r : Int), had, q.2, rt c q.1) K (0, ([] : List Int))) (fun s53 => (some (s53.1, s53.2.1, s53.2.2)))) (fun s48 => (Option.bind (idx s48.2.1 (r : Int)) (fun y97 => (cnd (!y97) (Option.bind (ref32_allocator_spill (⟨c, q.1.sp, q.1.ss, UC c⟩ : Fullingref32Allocator) (⟨(r : Int), 3, 0, 0, s48.1⟩ : Spill)) (fun r100 => (some (s48.2.1, s48.2.2, r100.C.Params, r100.C.Regs, r100.C.Blocks, r100.Weight, r100.Spilled, r100.Spills)))) (some (s48.2.1, s48.2.2, rt c q.1)))))))))) (had', (col c q r).2, rt c (col c q r).1) := by
    unfold col
    cases hsp : isSp q.1.sp (r : Int) with
    | true =>
     rw [if_pos rfl]
     refine ⟨had, ⟨hh.l, fun y hy0 hy1 => ?_⟩, fun _ => Ev.bindO i1 (Ev.t hsp (Ev.some _))⟩
     rw [hh.b y hy0 hy1]
     by_cases e : y = (r : Int)
     ·subst e; rw [hsp]; simp
     ·congr 1; rw [Bool.eq_iff_iff]; simp; omega
    | false =>
     rw [if_neg (by simp)]
     have e2 := ral_l2 h hj (s37 := ((r : Int), had, q.2, rt c q.1)) rfl rfl hh rfl hl
     cases hf : frM (IF c r) q.1.sp q.2 r with
     | some m =>
      have e3 : colR c q.1.sp had q.2 r = ((List.range m).map (fun m : Nat => own (IF c r) q.1.sp q.2 r m), had.set r true, q.2.set r ⟨false, (m : Int)⟩) := by unfold colR; rw [hf]
      rw [e3] at e2
      have i4 := isSp_idx (sp := had.set r true) (r := (r : Int)) (by omega) (by simp [hh.l]; omega)
      rw [isSp_setN (by rw [hh.l]; exact hj) (by omega), if_pos rfl] at i4
      refine ⟨had.set r true, ⟨by simp [hh.l], fun y hy0 hy1 => ?_⟩, fun _ => Ev.bindO i1 (Ev.f hsp (Ev.bind (Ev.bind (Ev.loop e2) (Ev.some _)) (Ev.bindO i4 (Ev.f rfl (Ev.some _)))))⟩
      rw [isSp_setN (by rw [hh.l]; exact hj) hy0]
      show _ = (decide (y < ((r + 1 : Nat) : Int)) && !(isSp q.1.sp y))
      by_cases e : y = (r : Int)
      ·subst e; rw [if_pos rfl, hsp]; simp; omega
      ·rw [if_neg e, hh.b y hy0 hy1]; congr 1; rw [Bool.eq_iff_iff]; simp; omega
     | none =>
      have e3 : colR c q.1.sp had q.2 r = (owns (IF c r) q.1.sp q.2 r, had, q.2) := by unfold colR; rw [hf]
      rw [e3] at e2
      rw [hhr] at i2
      have e4 := rspill_eq (c := c) (w := UC c) (st := q.1) (x := ⟨(r : Int), 3, 0, 0, owns (IF c r) q.1.sp q.2 r⟩) (show (0 : Int) ≤ r by omega) (show (r : Int) < _ by omega) (by omega)
      refine ⟨had, ⟨hh.l, fun y hy0 hy1 => ?_⟩, fun _ => Ev.bindO i1 (Ev.f hsp (Ev.bind (Ev.bind (Ev.loop e2) (Ev.some _)) (Ev.bindO i2 (Ev.t rfl (Ev.bindO e4 (Ev.some _))))))⟩
      show isSp had y = (decide (y < ((r + 1 : Nat) : Int)) && !(isSp (q.1.sp.set (r : Int).toNat true) y))
      rw [isSp_set (by omega) (by omega) hy0, hh.b y hy0 hy1]
      by_cases e : y = (r : Int)
      ·subst e; simp
      ·have e5 : (y == (r : Int)) = false := by simpa using e
       rw [e5, Bool.or_false]; congr 1; rw [Bool.eq_iff_iff]; simp; omega
   obtain ⟨had', hh', ek⟩ := key
   refine ⟨(had', (col c q r).2, rt c (col c q r).1), ⟨had', rfl, hh', hnext⟩, fun r' hr' => Ev.step (fun K k => rfl) (Ev.t (by simp; omega) (Ev.bind (ek ()) ?_))⟩
   rw [w64_succ (i := r) (by omega)]
   exact hr') q0 (List.replicate c.Regs.toNat false, q0.2, rt c q0.1) ⟨_, rfl, ⟨by simp, fun y hy0 hy1 => by
    unfold isSp
    rw [List.getD_eq_getElem?_getD, List.getElem?_replicate]
    have : decide (y < ((0 : Nat) : Int)) = false := by simp; omega
    rw [this]
    split <;> rfl⟩, h0⟩
 exact ⟨had, el⟩
theorem ral_l4 {c : VFunc} (h : Vd c) {s32 : (List Bool) × (List Location) × Int × Int × (List Block) × (List Int) × (List Bool) × (List Spill)} (hs : s32.2.2.2.2.2.2.1 = (fin3 c).1.sp) : Ev (fun K k => ref32_Allocate_l4 K c s32 k (0, c.Params, (fin3 c).2)) ((fin4 c).2, (fin4 c).1) := by
 have hr1 := h.h.r1
 have hr0 := h.h.r0
 have hp0 := h.h.p0
 have hp1 := h.h.p1
 have h3 := c3_fin h
 have hsl := h3.s.l
 obtain ⟨s', ⟨rfl, _⟩, el⟩ := ev_foldi (List.range c.Regs.toNat) (fun K k i s => ref32_Allocate_l4 K c s32 k (i, s)) id (slo (fin3 c).1.sp) (fun r q s => s = (q.2, q.1) ∧ C4 c (fin3 c).1.sp (fin3 c).2 r q)
  (fun a s hs => Ev.step (fun K k => rfl) (Ev.f (by simp; omega) (Ev.some _)))
  (fun j r q s hx hj hs' => by
   obtain ⟨rfl, hj⟩ := rng_get hx
   obtain ⟨rfl, h4⟩ := hs'
   have hnext := h4.step hj
   have hl := h4.l
   have hb := h4.b
   have i1 := isSp_idx (sp := (fin3 c).1.sp) (r := (r : Int)) (by omega) (by omega)
   rw [← hs] at i1
   have i3 := locL_idx (loc := q.1) (r := (r : Int)) (by omega) (by omega)
   have hw : w64 (q.2 + 1) = q.2 + 1 := w64_id (by omega) (by omega)
   refine ⟨((slo (fin3 c).1.sp q r).2, (slo (fin3 c).1.sp q r).1), ⟨rfl, hnext⟩, fun r' hr' => Ev.step (fun K k => rfl) (Ev.t (by simp; omega) (Ev.bind (x := ((slo (fin3 c).1.sp q r).2, (slo (fin3 c).1.sp q r).1)) (Ev.bindO i1 ?_) ?_))⟩
   ·rw [hs]
    unfold slo
    cases isSp (fin3 c).1.sp (r : Int) with
    | true => exact Ev.t rfl (Ev.bindO i3 ((Ev.some _).cast (by rw [hw, Int.toNat_natCast]; rfl)))
    | false => exact Ev.f rfl (Ev.some _)
   ·rw [w64_succ (i := r) (by omega)]
    exact hr') ((fin3 c).2, c.Params) (c.Params, (fin3 c).2) ⟨rfl, ⟨h3.l, fun y hy => rfl, fun y hy => by omega, fun y z hy => by omega, by show _ ≤ c.Params ∧ c.Params ≤ _; omega⟩⟩
 exact el
theorem c3_start {c : VFunc} (h : Vd c) : C3 c 0 (ph2 c (ph1 c), loc0 c) := by
 obtain ⟨h1, h2, h3⟩ := ph2_ok h
 exact ⟨h1, by simp [loc0], h2, fun y hy => by omega, fun y z hy => by omega, h3 _ _ _⟩
theorem ev_ralloc {c : VFunc} (h : Vd c) : Ev (fun K _ => ref32_Allocate K c) (AL c) := by
 have hb0 := h.h.b0
 unfold ref32_Allocate
 refine Ev.bind (ev_rvalid h.sm) (Ev.f (by rw [h.v]; rfl) (Ev.bind (ev_rblocks h) (Ev.bindO (idx_eq (i := 0) (LIs_get (by omega))) ?_)))
 refine Ev.cnd (fun hc => (Ev.some _).cast ?_) (fun hc => ?_)
 ·unfold AL; rw [if_pos (by have := of_decide_eq_true hc; omega)]
 ·have hn : ¬ (LI c 0).length > 0 := by have := of_decide_eq_false hc; omega
  have e1 := ev_spillCalls h
  have e2 := ev_spillPressure h (ph1_ok h).1
  obtain ⟨had, e3⟩ := ral_l1 h (c3_start h)
  have e4 := ral_l4 h (s32 := (had, (fin3 c).2, rt c (fin3 c).1)) rfl
  refine Ev.bindO (mkR h (by omega) _) (Ev.bind (ev_ruc h) (Ev.bind e1 (Ev.bind e2 (Ev.bind (ev_rint h) (Ev.bindO (mkR h (by omega) _) (Ev.bindO (mkR h (by omega) _) (Ev.bind (Ev.loop e3) (Ev.bind (Ev.loop e4) ?_))))))))
  unfold AL
  rw [if_neg hn]
  refine Ev.cnd (fun hc => (Ev.some _).cast ?_) (fun hc => (Ev.some _).cast ?_)
  ·rw [if_pos (of_decide_eq_true hc)]
  ·rw [if_neg (of_decide_eq_false hc)]; rfl
end Go.Proofs.YtocfnpnnbmicmaaDoor.Tc
end
section
set_option linter.unusedVariables false
set_option linter.unusedSimpArgs false
namespace Go.Proofs.YtocfnpnnbmicmaaDoor.Tc
open Go
theorem al_slots {c : VFunc} (h : Vd c) : c.Params ≤ (fin4 c).2 ∧ (fin4 c).2 ≤ c.Params + c.Regs := (alc h).s
theorem al_ok {c : VFunc} (h : Vd c) (h0 : LI c 0 = []) (hs : c.Params + c.Regs ≤ 3000) : AL c = (ALa c, 0) := by
 have := al_slots h
 unfold AL
 rw [h0, if_neg (by simp), if_neg (by omega)]
theorem VF.al {p : Int} {c : VFunc} (h : VF p c) : AL c = (ALa c, 0) := al_ok h.vd h.li0 (by have := h.hp; have := h.hr; have := h.p2; omega)
theorem ev_check {c : VFunc} {a : Allocation} {b d : Bool} (h1 : Ev (fun K _ => alloccheck_Sound K c a) b) (h2 : b = true → Ev (fun K _ => alloccheck_Justified K c a) d) : Ev (fun K _ => alloccheck_Check K c a) (b && d) := by
 unfold alloccheck_Check
 refine Ev.bind h1 (Ev.bind (x := b && d) ?_ (Ev.some _))
 cases b with
 | false => exact Ev.f rfl (Ev.some _)
 | true => exact Ev.t rfl (Ev.bind (h2 rfl) (Ev.some _))
end Go.Proofs.YtocfnpnnbmicmaaDoor.Tc
end
section
set_option linter.unusedVariables false
set_option linter.unusedSimpArgs false
namespace Go.Proofs.YtocfnpnnbmicmaaDoor.Tc
open Go
structure SmA (a : Allocation) : Prop where
 s : a.Spills.length ≤ 17592186044000
 o : ∀ s, s ∈ a.Spills → s.Others.length ≤ 17592186044000
theorem ev_acontains {l : List Int} {x : Int} (hl : Sm l) : Ev (fun K _ => alloccheck_contains K l x) (l.contains x) := by
 have h1 : Ev (fun K k => alloccheck_contains_l1 K l x k 0) (if l.all (fun y => !(y == x)) then .inl () else .inr true) :=
  ev_all l (fun K k i => alloccheck_contains_l1 K l x k i) (fun y => !(y == x)) true (Ev.step (fun K k => rfl) (Ev.f (by simp) (Ev.inn ())))
   (fun i y hy hi => ⟨fun ht r hr => Ev.step (fun K k => rfl) (Ev.t (by simpa using hi) (Ev.bindO (idx_eq hy) (Ev.f (by simpa using ht) (by rw [w64_succ (i := i) (by unfold Sm at hl; omega)]; exact hr)))), fun ht => Ev.step (fun K k => rfl) (Ev.t (by simpa using hi) (Ev.bindO (idx_eq hy) (Ev.t (by simpa using ht) (Ev.out (Ev.some true)))))⟩)
 have e : l.contains x = !(l.all (fun y => !(y == x))) := by
  rw [Bool.eq_iff_iff]
  simp only [List.contains_iff_mem, Bool.not_eq_true', ← Bool.not_eq_true, List.all_eq_true]
  constructor
  ·intro h q; have := q x h; simp at this
  ·intro h
   refine Decidable.byContradiction fun q => h fun y hy => ?_
   have : y ≠ x := fun e => q (e ▸ hy)
   simpa using this
 unfold alloccheck_contains
 rw [e]
 cases hc : l.all (fun y => !(y == x)) with
 | true => rw [hc] at h1; exact Ev.sql (Ev.loop h1) (Ev.some _)
 | false => rw [hc] at h1; exact Ev.sqr (Ev.loop h1)
abbrev Memo := List (Int × List (List Int))
def MP (c : VFunc) (m : Memo) : Prop := ∀ k y, mget m k = some y → y = LPs c k.toNat
theorem mget_put {m : Memo} {k k' : Int} {y : List (List Int)} (h : mget m k = none) : mget (mput m k y) k' = if k' = k then some y else mget m k' := by
 have ha : m.any (fun p => p.1 == k) = false := by
  rw [Bool.eq_false_iff]
  intro q
  obtain ⟨p, hp, hk⟩ := List.any_eq_true.1 q
  unfold mget at h
  rw [Option.map_eq_none_iff, List.find?_eq_none] at h
  exact h p hp hk
 unfold mput
 rw [ha, if_neg (by simp)]
 unfold mget at h ⊢
 rw [List.find?_append]
 by_cases e : k' = k
 ·subst e
  rw [if_pos rfl]
  rw [Option.map_eq_none_iff] at h
  rw [h]; simp
 ·rw [if_neg e]
  have : (k == k') = false := by simpa using Ne.symm e
  cases m.find? (fun p => p.1 == k') <;> simp [List.find?_cons, this]
theorem MP.put {c : VFunc} {m : Memo} (h : MP c m) {k : Nat} (hk : mget m (k : Int) = none) : MP c (mput m (k : Int) (LPs c k)) := fun k' y hy => by
 rw [mget_put hk] at hy
 by_cases e : k' = (k : Int)
 ·subst e; rw [if_pos rfl] at hy; exact (Option.some.inj hy).symm
 ·rw [if_neg e] at hy; exact h k' y hy
theorem LPs_idx {c : VFunc} {k i : Nat} (h : i ≤ (bk c k).Instrs.length) : idx (LPs c k) (i : Int) = some (lp (bk c k) (LO c k) i) := idx_eq (by unfold LPs lps; rw [List.getElem?_map, List.getElem?_range (by omega)]; rfl)
theorem ev_pat {c : VFunc} (h : Vd c) {m : Memo} (hm : MP c m) {k i : Nat} (hk : k < c.Blocks.length) (hi : i ≤ (bk c k).Instrs.length) : ∃ m', MP c m' ∧ Ev (fun K _ => alloccheck_points_at K (⟨c, m⟩ : AlloccheckPoints) (k : Int) (i : Int)) (lp (bk c k) (LO c k) i, m') := by
 unfold alloccheck_points_at
 cases hg : mget m (k : Int) with
 | none => exact ⟨mput m (k : Int) (LPs c k), hm.put hg, Ev.bind (x := (LPs c k, mput m (k : Int) (LPs c k))) (Ev.t rfl (Ev.bind (ev_ppoints h hk) (Ev.some _))) (Ev.bindO (LPs_idx hi) (Ev.some _))⟩
 | some y =>
  have := hm _ _ hg
  rw [Int.toNat_natCast] at this
  subst this
  exact ⟨m, hm, Ev.bind (x := (LPs c k, m)) (Ev.f rfl (Ev.some _)) (Ev.bindO (LPs_idx hi) (Ev.some _))⟩
theorem lp_sm {c : VFunc} (h : Vd c) {k : Nat} (hk : k < c.Blocks.length) (i : Nat) : RS c (lp (bk c k) (LO c k) i) ∧ Sm (lp (bk c k) (LO c k) i) := by
 have hl := RS.lp (h.iv hk) (h.e hk) (RS.LO h k) i
 have := hl.len h
 exact ⟨hl, by unfold Sm; omega⟩
theorem ev_place {c : VFunc} {s : Spill} {n : Int} {q : Bool} {b : Block → Bool} (hb : ∀ y, idx c.Blocks s.Block = some y → b y = (decide (s.Index ≥ (y.Instrs.length : Int) + n) || q)) : Ev (fun (K k : Nat) => cnd (decide (s.Block < 0)) (some true) (cnd (decide (s.Block ≥ ((c.Blocks).length : Int))) (some true) (cnd (decide (s.Index < 0)) (some true) (Option.bind (idx c.Blocks s.Block) (fun y12 => (some (b y12))))))) (!(ptB c s.Block s.Index n) || q) := by
 unfold ptB
 by_cases h1 : s.Block < 0
 ·refine Ev.t (by simpa using h1) ((Ev.some _).cast ?_)
  have : decide (0 ≤ s.Block) = false := by simpa using h1
  rw [this]; simp
 ·refine Ev.f (by simpa using h1) ?_
  have e1 : decide (0 ≤ s.Block) = true := by simp; omega
  by_cases h2 : s.Block ≥ (c.Blocks.length : Int)
  ·refine Ev.t (by simpa using h2) ((Ev.some _).cast ?_)
   have : decide (s.Block < (c.Blocks.length : Int)) = false := by simp; omega
   rw [this]; simp
  ·refine Ev.f (by simpa using h2) ?_
   have e2 : decide (s.Block < (c.Blocks.length : Int)) = true := by simp; omega
   by_cases h3 : s.Index < 0
   ·refine Ev.t (by simpa using h3) ((Ev.some _).cast ?_)
    have : decide (0 ≤ s.Index) = false := by simpa using h3
    rw [this]; simp
   ·refine Ev.f (by simpa using h3) ?_
    have e3 : decide (0 ≤ s.Index) = true := by simp; omega
    have hk : s.Block.toNat < c.Blocks.length := by omega
    have ek := bk_idx hk
    rw [show ((s.Block.toNat : Nat) : Int) = s.Block by omega] at ek
    refine Ev.bindO ek ((Ev.some _).cast ?_)
    rw [hb _ ek, e1, e2, e3]
    simp only [Bool.true_and]
    congr 1
    rw [Bool.eq_iff_iff]; simp
theorem ptB_to {c : VFunc} {s : Spill} {n : Int} (h : ptB c s.Block s.Index n = true) : ∃ k i : Nat, s.Block = (k : Int) ∧ s.Index = (i : Int) ∧ k < c.Blocks.length ∧ (i : Int) < ((bk c k).Instrs.length : Int) + n := by
 unfold ptB at h
 simp only [Bool.and_eq_true, decide_eq_true_eq] at h
 exact ⟨s.Block.toNat, s.Index.toNat, by omega, by omega, by omega, by omega⟩
theorem ev_acall {c : VFunc} (h : Vd c) {m : Memo} (hm : MP c m) (s : Spill) : ∃ m', MP c m' ∧ Ev (fun K _ => alloccheck_acrossCall K (⟨c, m⟩ : AlloccheckPoints) s) (callB c s, m') := by
 have e0 := ev_place (c := c) (s := s) (n := 0) (q := decide (((s.Others).length : Int) > 0)) (b := fun y => decide (s.Index ≥ (y.Instrs.length : Int)) || decide (((s.Others).length : Int) > 0)) (fun y hy => by simp)
 unfold alloccheck_acrossCall
 cases hp : ptB c s.Block s.Index 0 with
 | false =>
  rw [hp] at e0
  refine ⟨m, hm, Ev.bind e0 (Ev.t rfl ((Ev.some _).cast ?_))⟩
  unfold callB; rw [hp]; rfl
 | true =>
  rw [hp] at e0
  cases ho : decide (((s.Others).length : Int) > 0) with
  | true =>
   rw [ho] at e0
   refine ⟨m, hm, Ev.bind e0 (Ev.t rfl ((Ev.some _).cast ?_))⟩
   have : decide (s.Others.length = 0) = false := by have := of_decide_eq_true ho; simp; intro q; rw [q] at this; simp at this
   unfold callB; rw [hp, this]; rfl
  | false =>
   rw [ho] at e0
   obtain ⟨k, i, ek, ei, hk, hi⟩ := ptB_to hp
   have hi : i < (bk c k).Instrs.length := by omega
   have hv := h.ia hk hi
   have hlen := h.len hk
   have eb : callB c s = (acv (iAt (bk c k) i) (lp (bk c k) (LO c k) (i + 1))).contains s.Reg := by
    have : decide (s.Others.length = 0) = true := by have := of_decide_eq_false ho; simp; cases hh : s.Others with | nil => rfl | cons _ _ => rw [hh] at this; simp at this
    have e1 : ((i : Int) + 1) = ((i + 1 : Nat) : Int) := by omega
    unfold callB
    rw [hp, this, ek, ei, e1, lpA_eq]
    simp
   have e1 : idx c.Blocks s.Block = some (bk c k) := by rw [ek]; exact bk_idx hk
   have e2 : idx (bk c k).Instrs s.Index = some (iAt (bk c k) i) := by rw [ei]; exact idx_eq (iAt_get hi)
   obtain ⟨hl, hsm⟩ := lp_sm h hk (i + 1)
   by_cases h6 : (iAt (bk c k) i).Instr.Op = 6
   ·obtain ⟨m', hm', ep⟩ := ev_pat h hm hk (i := i + 1) (by omega)
    have ew : w64 (s.Index + 1) = ((i + 1 : Nat) : Int) := by rw [ei]; exact w64_succ (by omega)
    have hac : callB c s = ((iAt (bk c k) i).Args.contains s.Reg || ((iAt (bk c k) i).Instr.A != s.Reg && (lp (bk c k) (LO c k) (i + 1)).contains s.Reg)) := by
     rw [eb, acv_args h6 hl.s, Bool.eq_iff_iff]
     simp only [List.contains_iff_mem, mem_uni, mem_mns, List.mem_singleton, Bool.or_eq_true, Bool.and_eq_true, bne_iff_ne]
     constructor
     ·rintro (⟨q1, q2⟩ | q)
      ·exact .inr ⟨fun e => q2 e.symm, q1⟩
      ·exact .inl q
     ·rintro (q | ⟨q1, q2⟩)
      ·exact .inr q
      ·exact .inl ⟨q2, fun e => q1 e.symm⟩
    rw [hac]
    have hn := hv.n
    have ec := ev_acontains (l := (iAt (bk c k) i).Args) (x := s.Reg) (by unfold Sm; omega)
    cases hc : (iAt (bk c k) i).Args.contains s.Reg with
    | true =>
     rw [hc] at ec
     exact ⟨m, hm, Ev.bind e0 (Ev.f rfl (Ev.bindO e1 (Ev.bindO e2 (Ev.f (by simp [h6]) (Ev.bind (x := (true, m)) (Ev.bind ec (Ev.t rfl (Ev.some _))) (Ev.some _))))))⟩
    | false =>
     rw [hc] at ec
     by_cases hA : (iAt (bk c k) i).Instr.A = s.Reg
     ·refine ⟨m, hm, Ev.bind e0 (Ev.f rfl (Ev.bindO e1 (Ev.bindO e2 (Ev.f (by simp [h6]) (Ev.bind (x := (false, m)) (Ev.bind ec (Ev.f rfl (Ev.f (by simp [hA]) (Ev.some _)))) ((Ev.some _).cast ?_))))))⟩
      have : ((iAt (bk c k) i).Instr.A != s.Reg) = false := by simp [hA]
      rw [this]; rfl
     ·have hne : ((iAt (bk c k) i).Instr.A != s.Reg) = true := by simpa using hA
      rw [← ek, ← ew] at ep
      refine ⟨m', hm', Ev.bind e0 (Ev.f rfl (Ev.bindO e1 (Ev.bindO e2 (Ev.f (by simp [h6]) (Ev.bind (x := ((lp (bk c k) (LO c k) (i + 1)).contains s.Reg, m')) (Ev.bind ec (Ev.f rfl (Ev.t hne (Ev.bind ep (Ev.bind (ev_acontains hsm) (Ev.some _)))))) ((Ev.some _).cast ?_))))))⟩
      rw [hne]; rfl
   ·refine ⟨m, hm, Ev.bind e0 (Ev.f rfl (Ev.bindO e1 (Ev.bindO e2 (Ev.t (by simpa using h6) ((Ev.some _).cast ?_)))))⟩
    rw [eb, acv_nil h6]; rfl
structure HS (c : VFunc) (e : List Int) (sp : List Bool) : Prop where
 l : sp.length = c.Regs.toNat
 b : ∀ y : Int, 0 ≤ y → y < c.Regs → isSp sp y = e.contains y
theorem ev_apres {c : VFunc} (h : Vd c) {m : Memo} (hm : MP c m) {e : List Int} {sp : List Bool} (hs : HS c e sp) {s : Spill} (ho : s.Others.length ≤ 17592186044000) : ∃ m', MP c m' ∧ Ev (fun K _ => alloccheck_pressure K (⟨c, m⟩ : AlloccheckPoints) s sp) (presB c e s, m', sp) := by
 have e0 := ev_place (c := c) (s := s) (n := 1) (q := decide (((s.Others).length : Int) < 5)) (b := fun y => decide (s.Index > (y.Instrs.length : Int)) || decide (((s.Others).length : Int) < 5)) (fun y hy => rfl)
 unfold alloccheck_pressure
 cases hp : ptB c s.Block s.Index 1 with
 | false =>
  rw [hp] at e0
  refine ⟨m, hm, Ev.bind e0 (Ev.t rfl ((Ev.some _).cast ?_))⟩
  unfold presB; rw [hp]; rfl
 | true =>
  rw [hp] at e0
  cases hq : decide (((s.Others).length : Int) < 5) with
  | true =>
   rw [hq] at e0
   refine ⟨m, hm, Ev.bind e0 (Ev.t rfl ((Ev.some _).cast ?_))⟩
   have : decide (5 ≤ s.Others.length) = false := by have := of_decide_eq_true hq; simp; omega
   unfold presB; rw [hp, this]; rfl
  | false =>
   rw [hq] at e0
   obtain ⟨k, i, ek, ei, hk, hi⟩ := ptB_to hp
   have hi : i ≤ (bk c k).Instrs.length := by omega
   obtain ⟨hl, hsm⟩ := lp_sm h hk i
   obtain ⟨m', hm', ep⟩ := ev_pat h hm hk hi
   have eb : presB c e s = ((lp (bk c k) (LO c k) i).contains s.Reg && (s.Others.all (fun y => (lp (bk c k) (LO c k) i).contains y && !(e.contains y)) && (ascB s.Others && !(s.Others.contains s.Reg)))) := by
    have : decide (5 ≤ s.Others.length) = true := by have := of_decide_eq_false hq; simp; omega
    unfold presB
    rw [hp, this, ek, ei, lpA_eq]; rfl
   rw [eb]
   rw [← ek, ← ei] at ep
   cases hr : (lp (bk c k) (LO c k) i).contains s.Reg with
   | false =>
    have ec := ev_acontains (x := s.Reg) hsm
    rw [hr] at ec
    exact ⟨m', hm', Ev.bind e0 (Ev.f rfl (Ev.bind ep (Ev.bind ec (Ev.t rfl (Ev.some _)))))⟩
   | true =>
    have ec := ev_acontains (x := s.Reg) hsm
    rw [hr] at ec
    let T : Nat → Bool := fun j => !(((decide (0 < j) && decide (s.Others.getD (j - 1) 0 ≥ s.Others.getD j 0)) || (s.Others.getD j 0 == s.Reg)) || (!((lp (bk c k) (LO c k) i).contains (s.Others.getD j 0)) || e.contains (s.Others.getD j 0)))
    have e1 : Ev (fun K n => alloccheck_pressure_l1 K s sp (lp (bk c k) (LO c k) i, m') n 0) (if (List.range s.Others.length).all T then .inl () else .inr (false, m', sp)) :=
     ev_all (List.range s.Others.length) (fun K n j => alloccheck_pressure_l1 K s sp (lp (bk c k) (LO c k) i, m') n j) T (false, m', sp) (Ev.step (fun K k => rfl) (Ev.f (by simp) (Ev.inn ())))
      (fun j x hx hj => by
       obtain ⟨rfl, hj⟩ := rng_get hx
       have eg : idx s.Others (x : Int) = some (s.Others.getD x 0) := by rw [idx_get hj, List.getD_eq_getElem?_getD, List.getElem?_eq_getElem hj]; rfl
       have b1 : Ev (fun (K n : Nat) => cnd (decide ((x : Int) > 0)) (Option.bind (idx s.Others (w64 ((x : Int) - 1))) (fun y36 => (some (decide (y36 ≥ (s.Others.getD x 0)))))) (some false)) (decide (0 < x) && decide (s.Others.getD (x - 1) 0 ≥ s.Others.getD x 0)) := by
        cases hx0 : decide (0 < x) with
        | false => exact Ev.f (by simpa using hx0) (Ev.some _)
        | true =>
         have hx0 := of_decide_eq_true hx0
         have hw : w64 ((x : Int) - 1) = ((x - 1 : Nat) : Int) := by rw [w64_id (by omega) (by omega)]; omega
         have eg2 : idx s.Others ((x - 1 : Nat) : Int) = some (s.Others.getD (x - 1) 0) := by rw [idx_get (by omega), List.getD_eq_getElem?_getD, List.getElem?_eq_getElem (by omega)]; rfl
         rw [← hw] at eg2
         exact Ev.t (by simp; omega) (Ev.bindO eg2 (Ev.some _))
       have b2 : ∀ z : Bool, Ev (fun (K n : Nat) => cnd (z || (s.Others.getD x 0 == s.Reg)) (some true) (Option.bind (alloccheck_contains K (lp (bk c k) (LO c k) i) (s.Others.getD x 0)) (fun r43 => (some (!r43))))) ((z || (s.Others.getD x 0 == s.Reg)) || !((lp (bk c k) (LO c k) i).contains (s.Others.getD x 0))) := fun z => by
        cases hz : (z || (s.Others.getD x 0 == s.Reg)) with
        | true => exact Ev.t rfl (Ev.some _)
        | false => exact Ev.f rfl (Ev.bind (ev_acontains hsm) (Ev.some _))
       have b3 : ∀ z : Bool, (z = false → (lp (bk c k) (LO c k) i).contains (s.Others.getD x 0) = true) → Ev (fun (K n : Nat) => cnd z (some true) (Option.bind (idx sp (s.Others.getD x 0)) (fun y49 => (some y49)))) (z || e.contains (s.Others.getD x 0)) := fun z hz => by
        cases z with
        | true => exact Ev.t rfl (Ev.some _)
        | false =>
         have hm := hl.r _ (List.contains_iff_mem.1 (hz rfl))
         have := isSp_idx (sp := sp) hm.1 (by rw [hs.l]; omega)
         rw [hs.b _ hm.1 hm.2] at this
         exact Ev.f rfl (Ev.bindO this (Ev.some _))
       have b4 := b3 (((decide (0 < x) && decide (s.Others.getD (x - 1) 0 ≥ s.Others.getD x 0)) || (s.Others.getD x 0 == s.Reg)) || !((lp (bk c k) (LO c k) i).contains (s.Others.getD x 0))) (fun q => by
        rw [Bool.or_eq_false_iff] at q; simpa using q.2)
       have et : T x = !((((decide (0 < x) && decide (s.Others.getD (x - 1) 0 ≥ s.Others.getD x 0)) || (s.Others.getD x 0 == s.Reg)) || !((lp (bk c k) (LO c k) i).contains (s.Others.getD x 0))) || e.contains (s.Others.getD x 0)) := by
        simp only [T, Bool.or_assoc]
       refine ⟨fun ht r hr => ?_, fun ht => ?_⟩
       ·rw [et, Bool.not_eq_true'] at ht
        rw [ht] at b4
        refine Ev.step (fun K k => rfl) (Ev.t (by simpa using hj) (Ev.bindO eg (Ev.bind b1 (Ev.bind (b2 _) (Ev.bind b4 (Ev.f rfl ?_))))))
        rw [w64_succ (i := x) (by omega)]; exact hr
       ·rw [et, Bool.not_eq_false'] at ht
        rw [ht] at b4
        exact Ev.step (fun K k => rfl) (Ev.t (by simpa using hj) (Ev.bindO eg (Ev.bind b1 (Ev.bind (b2 _) (Ev.bind b4 (Ev.t rfl (Ev.out (Ev.some _)))))))))
    have eT : (List.range s.Others.length).all T = (s.Others.all (fun y => (lp (bk c k) (LO c k) i).contains y && !(e.contains y)) && (ascB s.Others && !(s.Others.contains s.Reg))) := by
     have hget : ∀ j, j < s.Others.length → s.Others[j]? = some (s.Others.getD j 0) := fun j hj => by rw [List.getD_eq_getElem?_getD, List.getElem?_eq_getElem hj]; rfl
     have hmm : ∀ y, y ∈ s.Others ↔ ∃ j, j < s.Others.length ∧ y = s.Others.getD j 0 := fun y => by
      constructor
      ·intro hy
       obtain ⟨j, hj, e⟩ := List.mem_iff_getElem.1 hy
       refine ⟨j, hj, ?_⟩
       have := hget j hj
       rw [List.getElem?_eq_getElem hj, e] at this
       exact Option.some.inj this
      ·rintro ⟨j, hj, rfl⟩
       exact List.mem_of_getElem? (hget j hj)
     rw [Bool.eq_iff_iff]
     unfold ascB
     simp only [T, Bool.and_eq_true, List.all_eq_true, List.mem_range, Bool.not_eq_true', Bool.or_eq_false_iff, Bool.not_eq_false', List.contains_iff_mem, decide_eq_true_eq, Bool.and_eq_false_iff, decide_eq_false_iff_not, beq_eq_false_iff_ne, List.contains_eq_mem]
     constructor
     ·intro ht
      refine ⟨fun y hy => ?_, fun j hj => ?_, fun hr => ?_⟩
      ·obtain ⟨j, hj, rfl⟩ := (hmm y).1 hy
       exact (ht j hj).2
      ·have := (ht (j + 1) (by omega)).1.1
       rw [Nat.add_sub_cancel] at this
       omega
      ·obtain ⟨j, hj, e⟩ := (hmm _).1 hr
       exact (ht j hj).1.2 e.symm
     ·rintro ⟨h1, h2, h3⟩ j hj
      refine ⟨⟨?_, fun e => h3 ((hmm _).2 ⟨j, hj, e.symm⟩)⟩, h1 _ ((hmm _).2 ⟨j, hj, rfl⟩)⟩
      by_cases hj0 : 0 < j
      ·right
       have := h2 (j - 1) (by omega)
       rw [Nat.sub_add_cancel hj0] at this
       omega
      ·exact .inl hj0
    rw [Bool.true_and, ← eT]
    refine ⟨m', hm', Ev.bind e0 (Ev.f rfl (Ev.bind ep (Ev.bind ec (Ev.f rfl ?_))))⟩
    cases hT : (List.range s.Others.length).all T with
    | true => rw [hT] at e1; exact Ev.sql (Ev.loop e1) (Ev.some _)
    | false => rw [hT] at e1; exact Ev.sqr (Ev.loop e1)
theorem ev_acol {c : VFunc} (h : Vd c) {a : Allocation} (hl : (a.Locations.length : Int) = c.Regs) {s : Spill} (hr : 0 ≤ s.Reg ∧ s.Reg < c.Regs) : Ev (fun K _ => alloccheck_coloring K c a s (IF c s.Reg.toNat)) (colrB c a s) := by
 have g := gr_IF h
 have hlen := (g.s s.Reg.toNat).len h
 unfold alloccheck_coloring colrB
 by_cases hh : (s.Block = 0 ∧ s.Index = 0) ∧ s.Others.length = 5
 ·obtain ⟨⟨h1, h2⟩, h3⟩ := hh
  have e1 : Ev (fun K n => alloccheck_coloring_l1 K a s (IF c s.Reg.toNat) n 0) (if (List.range s.Others.length).all (fun k => (IF c s.Reg.toNat).contains (s.Others.getD k 0) && sameL (locA a (s.Others.getD k 0)) ⟨false, (k : Int)⟩) then .inl () else .inr false) :=
   ev_all (List.range s.Others.length) (fun K n j => alloccheck_coloring_l1 K a s (IF c s.Reg.toNat) n j) _ false (Ev.step (fun K k => rfl) (Ev.f (by simp) (Ev.inn ())))
    (fun j x hx hj => by
     obtain ⟨rfl, hj⟩ := rng_get hx
     have eg : idx s.Others (x : Int) = some (s.Others.getD x 0) := by rw [idx_get hj, List.getD_eq_getElem?_getD, List.getElem?_eq_getElem hj]; rfl
     have b1 : Ev (fun (K n : Nat) => cnd (!((IF c s.Reg.toNat).contains (s.Others.getD x 0))) (some true) (Option.bind (idx a.Locations (s.Others.getD x 0)) (fun y23 => (some (!((y23.InSlot == false) && (y23.Index == (x : Int)))))))) (!((IF c s.Reg.toNat).contains (s.Others.getD x 0) && sameL (locA a (s.Others.getD x 0)) ⟨false, (x : Int)⟩)) := by
      cases hc : (IF c s.Reg.toNat).contains (s.Others.getD x 0) with
      | false => exact Ev.t rfl (Ev.some _)
      | true =>
       have hm := (g.s s.Reg.toNat).r _ (List.contains_iff_mem.1 hc)
       exact Ev.f rfl (Ev.bindO (locA_idx (a := a) hm.1 (by omega)) (Ev.some _))
     have ec := ev_acontains (l := IF c s.Reg.toNat) (x := s.Others.getD x 0) (by unfold Sm; omega)
     refine ⟨fun ht r hr => ?_, fun ht => ?_⟩
     ·rw [ht] at b1
      refine Ev.step (fun K k => rfl) (Ev.t (by simpa using hj) (Ev.bindO eg (Ev.bind ec (Ev.bind b1 (Ev.f rfl ?_)))))
      rw [w64_succ (i := x) (by omega)]; exact hr
     ·rw [ht] at b1
      exact Ev.step (fun K k => rfl) (Ev.t (by simpa using hj) (Ev.bindO eg (Ev.bind ec (Ev.bind b1 (Ev.t rfl (Ev.out (Ev.some false))))))))
  have eh : ((s.Block == 0) && (s.Index == 0)) = true := by rw [h1, h2]; rfl
  rw [eh, h3, Bool.true_and]
  rw [h3] at e1
  refine Ev.f (by rw [h1, h2]; rfl) ?_
  cases hT : (List.range 5).all (fun k => (IF c s.Reg.toNat).contains (s.Others.getD k 0) && sameL (locA a (s.Others.getD k 0)) ⟨false, (k : Int)⟩) with
  | true => rw [hT] at e1; exact Ev.sql (Ev.loop e1) (Ev.some _)
  | false => rw [hT] at e1; exact Ev.sqr (Ev.loop e1)
 ·have ef : (((s.Block == 0) && (s.Index == 0)) && decide (s.Others.length = 5)) = false := by
   rw [Bool.eq_false_iff]; intro q; apply hh; simpa using q
  refine Ev.t ?_ ((Ev.some _).cast ?_)
  ·rw [Bool.eq_false_iff] at ef
   rw [← Bool.not_eq_false]
   intro q
   apply ef
   simp only [Bool.or_eq_false_iff, bne_eq_false_iff_eq] at q
   simp [q.1.1, q.1.2]; omega
  ·rw [← Bool.and_assoc, ef]; rfl
theorem HS.next {c : VFunc} {e : List Int} {sp : List Bool} (h : HS c e sp) {r : Int} (h0 : 0 ≤ r) (h1 : r < c.Regs) : HS c (e ++ [r]) (sp.set r.toNat true) := ⟨by simp [h.l], fun y hy0 hy1 => by
 have hl := h.l
 rw [isSp_set h0 (by omega) hy0, h.b y hy0 hy1, Bool.eq_iff_iff]
 simp⟩
theorem okS_and {c : VFunc} {a : Allocation} {e : List Int} {s : Spill} : okS c a e s = (regOk c a e s && rsnB c a e s) := rfl
theorem aju_l1 {c : VFunc} (h : Vd c) {a : Allocation} (hl : (a.Locations.length : Int) = c.Regs) (hsm : SmA a) : ∀ (n i : Nat) (m : Memo) (sp : List Bool) (e : List Int), i + n = a.Spills.length → MP c m → HS c e sp → ∃ m' sp', (allS c a e (a.Spills.drop i) = true → HS c (e ++ (a.Spills.drop i).map Spill.Reg) sp') ∧ Ev (fun K k => alloccheck_Justified_l1 K c a (IFs c) k ((i : Int), m, sp)) (if allS c a e (a.Spills.drop i) then .inl (m', sp') else .inr false) := by
 intro n
 induction n with
 | zero =>
  intro i m sp e hi hm hs
  rw [List.drop_eq_nil_of_le (by omega)]
  exact ⟨m, sp, fun _ => by simpa using hs, Ev.step (fun K k => rfl) (Ev.f (by simp; omega) (Ev.inn _))⟩
 | succ n ih =>
  intro i m sp e hi hm hs
  have hss := hsm.s
  have hlt : i < a.Spills.length := by omega
  have hg := idx_get hlt
  have hmem := List.getElem_mem hlt
  rw [drop_get hlt]
  generalize a.Spills[i] = s at hg hmem
  have hso := hsm.o s hmem
  -- the head's test
  have b1 : Ev (fun (K k : Nat) => Option.bind (cnd ((decide (s.Reg < 0)) || (decide (s.Reg ≥ c.Regs))) (some true) (Option.bind (idx sp s.Reg) (fun y30 => (some y30)))) (fun z27 => cnd z27 (some true) (Option.bind (idx a.Locations s.Reg) (fun y36 => (some (!y36.InSlot)))))) (!(regOk c a e s)) := by
   unfold regOk
   cases hc : ((decide (s.Reg < 0)) || (decide (s.Reg ≥ c.Regs))) with
   | true =>
    have : (decide (0 ≤ s.Reg) && decide (s.Reg < c.Regs)) = false := by
     rw [Bool.eq_false_iff]; intro q; simp at q hc; omega
    rw [this]
    exact Ev.bind (Ev.t rfl (Ev.some _)) (Ev.t rfl (Ev.some _))
   | false =>
    have hc2 : 0 ≤ s.Reg ∧ s.Reg < c.Regs := by simp at hc; omega
    have : (decide (0 ≤ s.Reg) && decide (s.Reg < c.Regs)) = true := by simpa using hc2
    rw [this, Bool.true_and]
    have e1 := isSp_idx (sp := sp) hc2.1 (by rw [hs.l]; omega)
    rw [hs.b _ hc2.1 hc2.2] at e1
    refine Ev.bind (Ev.f rfl (Ev.bindO e1 (Ev.some _))) ?_
    cases he : e.contains s.Reg with
    | true => exact Ev.t rfl (Ev.some _)
    | false => exact Ev.f rfl (Ev.bindO (locA_idx (a := a) hc2.1 (by omega)) (Ev.some _))
  obtain ⟨z, hz1, hz2⟩ : ∃ z, Ev (fun (K k : Nat) => cnd ((decide (s.Reg < 0)) || (decide (s.Reg ≥ c.Regs))) (some true) (Option.bind (idx sp s.Reg) (fun y30 => (some y30)))) z ∧ Ev (fun (K k : Nat) => cnd z (some true) (Option.bind (idx a.Locations s.Reg) (fun y36 => (some (!y36.InSlot))))) (!(regOk c a e s)) := by
   cases hc : ((decide (s.Reg < 0)) || (decide (s.Reg ≥ c.Regs))) with
   | true =>
    refine ⟨true, Ev.t rfl (Ev.some _), Ev.t rfl ((Ev.some _).cast ?_)⟩
    have : (decide (0 ≤ s.Reg) && decide (s.Reg < c.Regs)) = false := by
     rw [Bool.eq_false_iff]; intro q; simp at q hc; omega
    unfold regOk; rw [this]; rfl
   | false =>
    have hc2 : 0 ≤ s.Reg ∧ s.Reg < c.Regs := by simp at hc; omega
    have : (decide (0 ≤ s.Reg) && decide (s.Reg < c.Regs)) = true := by simpa using hc2
    have e1 := isSp_idx (sp := sp) hc2.1 (by rw [hs.l]; omega)
    rw [hs.b _ hc2.1 hc2.2] at e1
    refine ⟨e.contains s.Reg, Ev.f rfl (Ev.bindO e1 (Ev.some _)), ?_⟩
    unfold regOk
    rw [this, Bool.true_and]
    cases he : e.contains s.Reg with
    | true => exact Ev.t rfl (Ev.some _)
    | false => exact Ev.f rfl (Ev.bindO (locA_idx (a := a) hc2.1 (by omega)) (Ev.some _))
  cases hro : regOk c a e s with
  | false =>
   rw [hro] at hz2
   have : allS c a e (s :: a.Spills.drop (i + 1)) = false := by rw [allS, okS_and, hro]; rfl
   rw [this]
   exact ⟨m, sp, fun q => (by cases q), Ev.step (fun K k => rfl) (Ev.t (by simpa using hlt) (Ev.bindO hg (Ev.bind hz1 (Ev.bind hz2 (Ev.t rfl (Ev.out (Ev.some false)))))))⟩
  | true =>
   rw [hro] at hz2
   have hreg : 0 ≤ s.Reg ∧ s.Reg < c.Regs := by
    unfold regOk at hro
    simp only [Bool.and_eq_true, decide_eq_true_eq] at hro
    exact hro.1.1
   obtain ⟨m1, hm1, e3⟩ : ∃ m1, MP c m1 ∧ Ev (fun (K k : Nat) => cnd (s.Reason == 1) (Option.bind (alloccheck_acrossCall K (⟨c, m⟩ : AlloccheckPoints) s) (fun r45 => (some (r45.1, r45.2, sp)))) (cnd (s.Reason == 2) (Option.bind (alloccheck_pressure K (⟨c, m⟩ : AlloccheckPoints) s sp) (fun r48 => (some (r48.1, r48.2.1, r48.2.2)))) (cnd (s.Reason == 3) (Option.bind (idx (IFs c) s.Reg) (fun y51 => (Option.bind (alloccheck_coloring K c a s y51) (fun r53 => (some (r53, m, sp)))))) (some (false, m, sp))))) (rsnB c a e s, m1, sp) := by
    unfold rsnB
    cases h1 : (s.Reason == 1) with
    | true =>
     obtain ⟨m1, hm1, e1⟩ := ev_acall h hm s
     exact ⟨m1, hm1, Ev.t rfl (Ev.bind e1 (Ev.some _))⟩
    | false =>
     cases h2 : (s.Reason == 2) with
     | true =>
      obtain ⟨m1, hm1, e1⟩ := ev_apres h hm hs hso
      exact ⟨m1, hm1, Ev.f rfl (Ev.t rfl (Ev.bind e1 (Ev.some _)))⟩
     | false =>
      cases h3 : (s.Reason == 3) with
      | true =>
       have ei := idx_eq (IFs_get (c := c) (k := s.Reg.toNat) (by omega))
       rw [show ((s.Reg.toNat : Nat) : Int) = s.Reg by omega] at ei
       exact ⟨m, hm, Ev.f rfl (Ev.f rfl (Ev.t rfl (Ev.bindO ei (Ev.bind (ev_acol h hl hreg) (Ev.some _)))))⟩
      | false => exact ⟨m, hm, Ev.f rfl (Ev.f rfl (Ev.f rfl (Ev.some _)))⟩
   cases hrs : rsnB c a e s with
   | false =>
    rw [hrs] at e3
    have : allS c a e (s :: a.Spills.drop (i + 1)) = false := by rw [allS, okS_and, hrs, Bool.and_false]; rfl
    rw [this]
    exact ⟨m, sp, fun q => (by cases q), Ev.step (fun K k => rfl) (Ev.t (by simpa using hlt) (Ev.bindO hg (Ev.bind hz1 (Ev.bind hz2 (Ev.f rfl (Ev.bind e3 (Ev.t rfl (Ev.out (Ev.some false)))))))))⟩
   | true =>
    rw [hrs] at e3
    have e4 := isSp_idx (sp := sp) hreg.1 (by rw [hs.l]; omega)
    obtain ⟨m2, sp2, h1, e5⟩ := ih (i + 1) m1 (sp.set s.Reg.toNat true) (e ++ [s.Reg]) (by omega) hm1 (hs.next hreg.1 hreg.2)
    have : allS c a e (s :: a.Spills.drop (i + 1)) = allS c a (e ++ [s.Reg]) (a.Spills.drop (i + 1)) := by rw [allS, okS_and, hro, hrs]; rfl
    rw [this]
    refine ⟨m2, sp2, fun q => by simpa using h1 q, Ev.step (fun K k => rfl) (Ev.t (by simpa using hlt) (Ev.bindO hg (Ev.bind hz1 (Ev.bind hz2 (Ev.f rfl (Ev.bind e3 (Ev.f rfl (Ev.bindO e4 ?_))))))))⟩
    rw [w64_succ (i := i) (by omega)]; exact e5
theorem ev_pjust {c : VFunc} (h : Vd c) {a : Allocation} (hsm : SmA a) : Ev (fun K _ => alloccheck_Justified K c a) (JB c a) := by
 have hr1 := h.h.r1
 unfold alloccheck_Justified JB
 by_cases hl : (a.Locations.length : Int) = c.Regs
 ·obtain ⟨m', sp', h1, e1⟩ := aju_l1 h hl hsm a.Spills.length 0 [] (List.replicate c.Regs.toNat false) [] (by omega) (fun k y hy => by simp [mget] at hy) ⟨by simp, fun y h0 h1 => by
   unfold isSp
   rw [List.getD_eq_getElem?_getD, List.getElem?_replicate]
   split <;> rfl⟩
  rw [List.drop_zero] at h1 e1
  have hd : decide ((a.Locations.length : Int) = c.Regs) = true := by simpa using hl
  rw [hd, Bool.true_and]
  refine Ev.bind (ev_vvalid h.sm) (Ev.f (by rw [h.v]; simp [hl]) (Ev.bindO (mkR h (by omega) _) (Ev.bind (ev_pint h) ?_)))
  cases hall : allS c a [] a.Spills with
  | false => rw [hall] at e1; exact Ev.sqr (Ev.loop e1)
  | true =>
   rw [hall] at e1
   have hs := h1 hall
   rw [List.nil_append] at hs
   have e2 : Ev (fun K k => alloccheck_Justified_l2 K a (m', sp') k 0) (if slotsB c a then .inl () else .inr false) := by
    refine ev_all (List.range c.Regs.toNat) (fun K k i => alloccheck_Justified_l2 K a (m', sp') k i) (fun r : Nat => !(locA a (r : Int)).InSlot || (a.Spills.map Spill.Reg).contains (r : Int)) false (Ev.step (fun K k => rfl) (Ev.f (by simp; omega) (Ev.inn ()))) (fun j r hx hj => ?_)
    obtain ⟨rfl, hj⟩ := rng_get hx
    have e3 := locA_idx (a := a) (r := (r : Int)) (by omega) (by omega)
    have e4 := isSp_idx (sp := sp') (r := (r : Int)) (by omega) (by rw [hs.l]; omega)
    rw [hs.b _ (by omega) (by omega)] at e4
    have b1 : Ev (fun (K k : Nat) => cnd (locA a (r : Int)).InSlot (Option.bind (idx sp' (r : Int)) (fun y74 => (some (!y74)))) (some false)) (!(!(locA a (r : Int)).InSlot || (a.Spills.map Spill.Reg).contains (r : Int))) := by
     cases (locA a (r : Int)).InSlot with
     | true => exact Ev.t rfl (Ev.bindO e4 (Ev.some _))
     | false => exact Ev.f rfl (Ev.some _)
    refine ⟨fun ht r' hr' => ?_, fun ht => ?_⟩
    ·rw [ht] at b1
     refine Ev.step (fun K k => rfl) (Ev.t (by simp; omega) (Ev.bindO e3 (Ev.bind b1 (Ev.f rfl ?_))))
     rw [w64_succ (i := r) (by omega)]; exact hr'
    ·rw [ht] at b1
     exact Ev.step (fun K k => rfl) (Ev.t (by simp; omega) (Ev.bindO e3 (Ev.bind b1 (Ev.t rfl (Ev.out (Ev.some false))))))
   refine Ev.sql (Ev.loop e1) ?_
   rw [Bool.true_and]
   cases hsl : slotsB c a with
   | true => rw [hsl] at e2; exact Ev.sql (Ev.loop e2) (Ev.some _)
   | false => rw [hsl] at e2; exact Ev.sqr (Ev.loop e2)
 ·have hd : decide ((a.Locations.length : Int) = c.Regs) = false := by simpa using hl
  rw [hd]
  exact Ev.bind (ev_vvalid h.sm) (Ev.t (by rw [h.v]; simpa using hl) (Ev.some _))
end Go.Proofs.YtocfnpnnbmicmaaDoor.Tc
end
section
set_option linter.unusedVariables false
set_option linter.unusedSimpArgs false
namespace Go.Proofs.YtocfnpnnbmicmaaDoor.Tc
open Go
theorem getD_idx {l : List Int} {i : Nat} (h : i < l.length) : idx l (i : Int) = some (l.getD i 0) := by rw [idx_get h, List.getD_eq_getElem?_getD, List.getElem?_eq_getElem h]; rfl
theorem ev_ascending {l : List Int} (hl : Sm l) : Ev (fun K _ => ref32_ascending K l) (ascB l) := by
 have hl' : l.length ≤ 17592186044000 := hl
 have key : ∀ n i : Nat, i + n = l.length - 1 → Ev (fun K k => ref32_ascending_l1 K l k ((i + 1 : Nat) : Int)) (if (List.range' i n).all (fun i => decide (l.getD i 0 < l.getD (i + 1) 0)) then .inl () else .inr false) := by
  intro n
  induction n with
  | zero =>
   intro i hi
   exact Ev.step (fun K k => rfl) (Ev.f (by simp; omega) (Ev.inn ()))
  | succ n ih =>
   intro i hi
   have hw : w64 (((i + 1 : Nat) : Int) - 1) = (i : Int) := by rw [w64_id (by omega) (by omega)]; omega
   have e1 := getD_idx (l := l) (i := i) (by omega)
   rw [← hw] at e1
   rw [List.range'_succ, List.all_cons]
   refine Ev.step (fun K k => rfl) (Ev.t (by simp; omega) (Ev.bindO e1 (Ev.bindO (getD_idx (i := i + 1) (by omega)) ?_)))
   cases hc : decide (l.getD i 0 < l.getD (i + 1) 0) with
   | true =>
    have hc := of_decide_eq_true hc
    refine Ev.f (by rw [decide_eq_false_iff_not]; omega) ?_
    rw [Bool.true_and, w64_succ (i := i + 1) (by omega)]
    exact ih (i + 1) (by omega)
   | false =>
    have hc := of_decide_eq_false hc
    exact Ev.t (by rw [decide_eq_true_iff]; omega) (Ev.out (Ev.some false))
 have h1 := key (l.length - 1) 0 (by omega)
 rw [← List.range_eq_range'] at h1
 unfold ref32_ascending
 show Ev _ ((List.range (l.length - 1)).all (fun i => decide (l.getD i 0 < l.getD (i + 1) 0)))
 cases hc : (List.range (l.length - 1)).all (fun i => decide (l.getD i 0 < l.getD (i + 1) 0)) with
 | true => rw [hc] at h1; exact Ev.sql (Ev.loop h1) (Ev.some _)
 | false => rw [hc] at h1; exact Ev.sqr (Ev.loop h1)
theorem LPs_len (c : VFunc) (k : Nat) : (LPs c k).length = (bk c k).Instrs.length + 1 := by simp [LPs, lps]
theorem ev_rpl {c : VFunc} (h : Vd c) (b : Int) : (∃ k : Nat, b = (k : Int) ∧ k < c.Blocks.length ∧ Ev (fun K _ => ref32_LivePoints K c b) (LPs c k)) ∨ ((decide (0 ≤ b) && decide (b < (c.Blocks.length : Int))) = false ∧ Ev (fun K _ => ref32_LivePoints K c b) []) := by
 by_cases hb : 0 ≤ b ∧ b < (c.Blocks.length : Int)
 ·obtain ⟨k, rfl⟩ : ∃ k : Nat, b = (k : Int) := ⟨b.toNat, by omega⟩
  exact .inl ⟨k, rfl, by omega, ev_rpoints h (by omega)⟩
 ·exact .inr ⟨by rw [Bool.eq_false_iff]; intro q; simp at q; omega, ev_rpoints0 h.sm (fun q => hb q.2)⟩
theorem ev_rcall {c : VFunc} (h : Vd c) {s : Spill} : Ev (fun (K k : Nat) => Option.bind (ref32_LivePoints K c s.Block) (fun r11 => (cnd ((decide (s.Index < 0)) || (decide (s.Index ≥ ((r11).length : Int)))) (some false) (Option.bind (cnd (decide (s.Index < (w64 (((r11).length : Int) - 1)))) (cnd (((s.Others).length : Int) == 0) (Option.bind (idx c.Blocks s.Block) (fun y23 => (Option.bind (idx y23.Instrs s.Index) (fun y25 => (Option.bind (ref32_after r11 s.Index) (fun r27 => (Option.bind (ref32_acrossCall K y25 r27) (fun r29 => (Option.bind (ref32_Contains K r29 s.Reg) (fun r31 => (some r31))))))))))) (some false)) (some false)) (fun s16 => (some s16)))))) (callB c s) := by
  rcases ev_rpl h s.Block with ⟨k, ek, hk, e1⟩ | ⟨hb, e1⟩
  · have hlen := h.len hk
    refine Ev.bind e1 ?_
    rw [LPs_len]
    have hw : w64 ((((bk c k).Instrs.length + 1 : Nat) : Int) - 1) = ((bk c k).Instrs.length : Int) := by rw [w64_id (by omega) (by omega)]; omega
    rw [hw]
    by_cases hi : 0 ≤ s.Index ∧ s.Index < ((bk c k).Instrs.length : Int) + 1
    · obtain ⟨i, ei⟩ : ∃ i : Nat, s.Index = (i : Int) := ⟨s.Index.toNat, by omega⟩
      refine Ev.f (by simp; omega) ?_
      by_cases hil : i < (bk c k).Instrs.length
      · have hp : ptB c s.Block s.Index 0 = true := by unfold ptB; rw [ek, ei]; simp; omega
        have e1 : ((i : Int) + 1) = ((i + 1 : Nat) : Int) := by omega
        have e2 : idx c.Blocks s.Block = some (bk c k) := by rw [ek]; exact bk_idx hk
        have e3 : idx (bk c k).Instrs s.Index = some (iAt (bk c k) i) := by rw [ei]; exact idx_eq (iAt_get hil)
        have e4 : ref32_after (LPs c k) s.Index = some (lp (bk c k) (LO c k) (i + 1)) := by rw [ei]; exact after_eq hk hil hlen
        have hv := h.ia hk hil
        obtain ⟨hl, hsm⟩ := lp_sm h hk (i + 1)
        unfold callB
        rw [hp, ek, ei, e1, lpA_eq, Bool.true_and]
        refine Ev.bind (Ev.t (by rw [ei] at *; simp; omega) ?_) (Ev.some _)
        cases ho : (((s.Others).length : Int) == 0) with
        | true =>
          have : decide (s.Others.length = 0) = true := by have : ((s.Others).length : Int) = 0 := by simpa using ho
                                                           simp only [decide_eq_true_eq]; omega
          rw [this, Bool.true_and]
          refine Ev.t rfl ?_
          rw [← ek, ← ei]
          exact Ev.bindO e2 (Ev.bindO e3 (Ev.bindO e4 (Ev.bind (ev_acrossCall h hv hl) (Ev.bind (ev_contains' h (RS.acv hv hl)) ((Ev.some _).cast (by rw [ek, Int.toNat_natCast, ei, Int.toNat_natCast]))))))
        | false =>
          have : decide (s.Others.length = 0) = false := by have : ¬ ((s.Others).length : Int) = 0 := by simpa using ho
                                                            simp only [decide_eq_false_iff_not]; omega
          rw [this, Bool.false_and]
          exact Ev.f rfl (Ev.some _)
      · have hp : ptB c s.Block s.Index 0 = false := by unfold ptB; rw [ek, ei]; simp; omega
        unfold callB
        rw [hp, Bool.false_and]
        exact Ev.bind (Ev.f (by rw [ei]; simp; omega) (Ev.some _)) (Ev.some _)
    · have hp : ptB c s.Block s.Index 0 = false := by unfold ptB; rw [ek]; simp; omega
      unfold callB
      rw [hp, Bool.false_and]
      exact Ev.t (by simp; omega) (Ev.some _)
  · have hp : ptB c s.Block s.Index 0 = false := by unfold ptB; rw [hb]; rfl
    unfold callB
    rw [hp, Bool.false_and]
    exact Ev.bind e1 (Ev.t (by simp; omega) (Ev.some _))
theorem ev_rpres {c : VFunc} (h : Vd c) {s : Spill} {e : List Int} (he : Sm e) (hne : e.contains s.Reg = false) (ho : s.Others.length ≤ 17592186044000) : Ev (fun (K k : Nat) => Option.bind (ref32_LivePoints K c s.Block) (fun r11 => (cnd ((decide (s.Index < 0)) || (decide (s.Index ≥ ((r11).length : Int)))) (some false) (Option.bind (app 8 [] s.Others) (fun l33 => (Option.bind (app 8 l33 ([s.Reg] : List Int)) (fun l36 => (sq (ref32_justified_l1 K e s r11 l36 K 0) (fun s39 => (Option.bind (ref32_ascending K s.Others) (fun r64 => (Option.bind (cnd r64 (Option.bind (ref32_Contains K s.Others s.Reg) (fun r70 => (some (!r70)))) (some false)) (fun z67 => (some (z67 && (decide (((s.Others).length : Int) ≥ 5))))))))))))))))) (presB c e s) := by
 rcases ev_rpl h s.Block with ⟨k, ek, hk, e1⟩ | ⟨hb, e1⟩
 ·have hlen := h.len hk
  refine Ev.bind e1 ?_
  rw [LPs_len]
  by_cases hi : 0 ≤ s.Index ∧ s.Index < ((bk c k).Instrs.length : Int) + 1
  ·obtain ⟨i, ei⟩ : ∃ i : Nat, s.Index = (i : Int) := ⟨s.Index.toNat, by omega⟩
   have hil : i ≤ (bk c k).Instrs.length := by omega
   have hp : ptB c s.Block s.Index 1 = true := by unfold ptB; rw [ek, ei]; simp; omega
   obtain ⟨hl, hsm⟩ := lp_sm h hk i
   have ex : idx (LPs c k) s.Index = some (lp (bk c k) (LO c k) i) := by rw [ei]; exact LPs_idx hil
   have e2 : Ev (fun K n => ref32_justified_l1 K e s (LPs c k) (s.Others ++ [s.Reg]) n 0) (if (s.Others ++ [s.Reg]).all (fun y => (lp (bk c k) (LO c k) i).contains y && !(e.contains y)) then .inl () else .inr false) :=
    ev_all (s.Others ++ [s.Reg]) (fun K n j => ref32_justified_l1 K e s (LPs c k) (s.Others ++ [s.Reg]) n j) _ false (Ev.step (fun K k => rfl) (Ev.f (by simp) (Ev.inn ())))
     (fun j y hy hj => by
      have hj2 : j ≤ 17592186044000 := by rw [List.length_append, List.length_singleton] at hj; omega
      have b1 : Ev (fun (K n : Nat) => Option.bind (idx (LPs c k) s.Index) (fun y52 => (Option.bind (idx (s.Others ++ [s.Reg]) (j : Int)) (fun y54 => (Option.bind (ref32_Contains K y52 y54) (fun r56 => (cnd (!r56) (some true) (Option.bind (idx (s.Others ++ [s.Reg]) (j : Int)) (fun y59 => (Option.bind (ref32_Contains K e y59) (fun r61 => (some r61)))))))))))) (!((lp (bk c k) (LO c k) i).contains y && !(e.contains y))) := by
       refine Ev.bindO ex (Ev.bindO (idx_eq hy) (Ev.bind (ev_contains hsm) ?_))
       cases (lp (bk c k) (LO c k) i).contains y with
       | false => exact Ev.t rfl (Ev.some _)
       | true => exact Ev.f rfl (Ev.bindO (idx_eq hy) (Ev.bind (ev_contains he) ((Ev.some _).cast (by simp))))
      refine ⟨fun ht r hr => ?_, fun ht => ?_⟩
      ·rw [ht] at b1
       refine Ev.step (fun K k => rfl) (Ev.t (by simp at hj ⊢; omega) (Ev.bind b1 (Ev.f rfl ?_)))
       rw [w64_succ (i := j) hj2]; exact hr
      ·rw [ht] at b1
       exact Ev.step (fun K k => rfl) (Ev.t (by simp at hj ⊢; omega) (Ev.bind b1 (Ev.t rfl (Ev.out (Ev.some false))))))
   refine Ev.f (by simp; omega) (Ev.bindO (app_nil (by omega) (by omega)) (Ev.bindO (app_eq (by simp; omega) (by simp; omega)) ?_))
   have eb : presB c e s = (decide (5 ≤ s.Others.length) && ((lp (bk c k) (LO c k) i).contains s.Reg && (s.Others.all (fun y => (lp (bk c k) (LO c k) i).contains y && !(e.contains y)) && (ascB s.Others && !(s.Others.contains s.Reg))))) := by
    unfold presB
    rw [hp, ek, ei, lpA_eq]; rfl
   have eall : (s.Others ++ [s.Reg]).all (fun y => (lp (bk c k) (LO c k) i).contains y && !(e.contains y)) = (s.Others.all (fun y => (lp (bk c k) (LO c k) i).contains y && !(e.contains y)) && (lp (bk c k) (LO c k) i).contains s.Reg) := by
    rw [List.all_append, List.all_cons, List.all_nil, hne]; simp
   rw [eall] at e2
   rw [eb]
   generalize (s.Others.all (fun y => (lp (bk c k) (LO c k) i).contains y && !(e.contains y))) = A at e2 ⊢
   generalize ((lp (bk c k) (LO c k) i).contains s.Reg) = B at e2 ⊢
   cases hAB : (A && B) with
   | false =>
    rw [hAB] at e2
    refine (Ev.sqr (Ev.loop e2)).cast ?_
    symm
    cases A <;> cases B <;> simp_all
   | true =>
    rw [hAB] at e2
    rw [Bool.and_eq_true] at hAB
    obtain ⟨rfl, rfl⟩ := hAB
    refine Ev.sql (Ev.loop e2) (Ev.bind (ev_ascending (by unfold Sm; omega)) (Ev.bind (x := ascB s.Others && !(s.Others.contains s.Reg)) ?_ ((Ev.some _).cast ?_)))
    ·cases ascB s.Others with
     | true => exact Ev.t rfl (Ev.bind (ev_contains (by unfold Sm; omega)) (Ev.some _))
     | false => exact Ev.f rfl (Ev.some _)
    ·have : decide (((s.Others).length : Int) ≥ 5) = decide (5 ≤ s.Others.length) := by rw [Bool.eq_iff_iff]; simp; omega
     rw [this, Bool.and_comm, Bool.true_and, Bool.true_and]
  ·have hp : ptB c s.Block s.Index 1 = false := by unfold ptB; rw [ek]; simp; omega
   unfold presB
   rw [hp, Bool.false_and]
   exact Ev.t (by simp; omega) (Ev.some _)
 ·have hp : ptB c s.Block s.Index 1 = false := by unfold ptB; rw [hb]; rfl
  unfold presB
  rw [hp, Bool.false_and]
  exact Ev.bind e1 (Ev.t (by simp; omega) (Ev.some _))
theorem ev_rcol {c : VFunc} (h : Vd c) {a : Allocation} (hl : (a.Locations.length : Int) = c.Regs) {s : Spill} (hr : 0 ≤ s.Reg ∧ s.Reg < c.Regs) : Ev (fun (K k : Nat) => cnd (((((s.Others).length : Int) != 5) || (s.Block != 0)) || (s.Index != 0)) (some false) (sq (ref32_justified_l2 K a (IFs c) s K 0) (fun s79 => (some true)))) (colrB c a s) := by
 have g := gr_IF h
 have hlen := (g.s s.Reg.toNat).len h
 have ei : idx (IFs c) s.Reg = some (IF c s.Reg.toNat) := by
  have := idx_eq (IFs_get (c := c) (k := s.Reg.toNat) (by omega))
  rwa [show ((s.Reg.toNat : Nat) : Int) = s.Reg by omega] at this
 unfold colrB
 by_cases hh : (s.Block = 0 ∧ s.Index = 0) ∧ s.Others.length = 5
 ·obtain ⟨⟨h1, h2⟩, h3⟩ := hh
  have e1 : Ev (fun K n => ref32_justified_l2 K a (IFs c) s n 0) (if (List.range s.Others.length).all (fun k => (IF c s.Reg.toNat).contains (s.Others.getD k 0) && sameL (locA a (s.Others.getD k 0)) ⟨false, (k : Int)⟩) then .inl () else .inr false) :=
   ev_all (List.range s.Others.length) (fun K n j => ref32_justified_l2 K a (IFs c) s n j) _ false (Ev.step (fun K k => rfl) (Ev.f (by simp) (Ev.inn ())))
    (fun j x hx hj => by
     obtain ⟨rfl, hj⟩ := rng_get hx
     have eg := getD_idx hj
     have b1 : Ev (fun (K n : Nat) => Option.bind (idx (IFs c) s.Reg) (fun y92 => (Option.bind (idx s.Others (x : Int)) (fun y94 => (Option.bind (ref32_Contains K y92 y94) (fun r96 => (cnd (!r96) (some true) (Option.bind (idx s.Others (x : Int)) (fun y99 => (Option.bind (idx a.Locations y99) (fun y101 => (some (!((y101.InSlot == false) && (y101.Index == (x : Int)))))))))))))))) (!((IF c s.Reg.toNat).contains (s.Others.getD x 0) && sameL (locA a (s.Others.getD x 0)) ⟨false, (x : Int)⟩)) := by
      refine Ev.bindO ei (Ev.bindO eg (Ev.bind (ev_contains' h (g.s _)) ?_))
      cases hc : (IF c s.Reg.toNat).contains (s.Others.getD x 0) with
      | false => exact Ev.t rfl (Ev.some _)
      | true =>
       have hm := (g.s s.Reg.toNat).r _ (List.contains_iff_mem.1 hc)
       exact Ev.f rfl (Ev.bindO eg (Ev.bindO (locA_idx (a := a) hm.1 (by omega)) (Ev.some _)))
     refine ⟨fun ht r hr => ?_, fun ht => ?_⟩
     ·rw [ht] at b1
      refine Ev.step (fun K k => rfl) (Ev.t (by simpa using hj) (Ev.bind b1 (Ev.f rfl ?_)))
      rw [w64_succ (i := x) (by omega)]; exact hr
     ·rw [ht] at b1
      exact Ev.step (fun K k => rfl) (Ev.t (by simpa using hj) (Ev.bind b1 (Ev.t rfl (Ev.out (Ev.some false))))))
  have eh : ((s.Block == 0) && (s.Index == 0)) = true := by rw [h1, h2]; rfl
  rw [eh, Bool.true_and]
  have e5 : decide (s.Others.length = 5) = true := by simpa using h3
  rw [e5, Bool.true_and]
  refine Ev.f (by rw [h1, h2, h3]; rfl) ?_
  cases hT : (List.range s.Others.length).all (fun k => (IF c s.Reg.toNat).contains (s.Others.getD k 0) && sameL (locA a (s.Others.getD k 0)) ⟨false, (k : Int)⟩) with
  | true => rw [hT] at e1; exact Ev.sql (Ev.loop e1) (Ev.some _)
  | false => rw [hT] at e1; exact Ev.sqr (Ev.loop e1)
 ·have ef : (((s.Block == 0) && (s.Index == 0)) && decide (s.Others.length = 5)) = false := by
   rw [Bool.eq_false_iff]; intro q; apply hh; simpa using q
  refine Ev.t ?_ ((Ev.some _).cast ?_)
  ·rw [Bool.eq_false_iff] at ef
   rw [← Bool.not_eq_false]
   intro q
   apply ef
   simp only [Bool.or_eq_false_iff, bne_eq_false_iff_eq] at q
   simp [q.1.2, q.2]; omega
  ·rw [← Bool.and_assoc, ef]; rfl
theorem ev_rjustified {c : VFunc} (h : Vd c) {a : Allocation} (hl : (a.Locations.length : Int) = c.Regs) {s : Spill} {e : List Int} (he : Sm e) (hr : regOk c a e s = true) (ho : s.Others.length ≤ 17592186044000) : Ev (fun K _ => ref32_justified K c a (IFs c) e s) (rsnB c a e s) := by
 unfold regOk at hr
 simp only [Bool.and_eq_true, decide_eq_true_eq, Bool.not_eq_true'] at hr
 obtain ⟨⟨hreg, hne⟩, _⟩ := hr
 unfold ref32_justified rsnB
 cases h1 : (s.Reason == 1) with
 | true => exact Ev.bind (x := true) (Ev.t rfl (Ev.some _)) (Ev.t rfl (ev_rcall h))
 | false =>
  cases h2 : (s.Reason == 2) with
  | true => exact Ev.bind (x := true) (Ev.f rfl (Ev.some _)) (Ev.t rfl (ev_rpres h he hne ho))
  | false =>
   refine Ev.bind (x := false) (Ev.f rfl (Ev.some _)) (Ev.f rfl ?_)
   cases h3 : (s.Reason == 3) with
   | true => exact Ev.t rfl (ev_rcol h hl hreg)
   | false => exact Ev.f rfl (Ev.some _)
theorem rju_l2 {c : VFunc} (h : Vd c) {a : Allocation} (hl : (a.Locations.length : Int) = c.Regs) (hsm : SmA a) : ∀ (n i : Nat) (e : List Int), i + n = a.Spills.length → e.Nodup → (∀ x, x ∈ e → 0 ≤ x ∧ x < c.Regs) → Ev (fun K k => ref32_Justified_l2 K c a (IFs c) k ((i : Int), e)) (if allS c a e (a.Spills.drop i) then .inl () else .inr false) := by
 have hr1 := h.h.r1
 intro n
 induction n with
 | zero =>
  intro i e hi hd hr
  rw [List.drop_eq_nil_of_le (by omega)]
  exact Ev.step (fun K k => rfl) (Ev.f (by simp; omega) (Ev.inn _))
 | succ n ih =>
  intro i e hi hd hr
  have hss := hsm.s
  have hlt : i < a.Spills.length := by omega
  have hg := idx_get hlt
  have hmem := List.getElem_mem hlt
  rw [drop_get hlt]
  generalize a.Spills[i] = s at hg hmem
  have hso := hsm.o s hmem
  have hel : e.length ≤ 3000 := by
   have := nodup_len (n := c.Regs.toNat) hd fun x hx => by have := hr x hx; omega
   omega
  have he : Sm e := by unfold Sm; omega
  obtain ⟨z, hz1, hz2⟩ : ∃ z, Ev (fun (K k : Nat) => cnd ((decide (s.Reg < 0)) || (decide (s.Reg ≥ c.Regs))) (some true) (Option.bind (ref32_Contains K e s.Reg) (fun r42 => (some r42)))) z ∧ Ev (fun (K k : Nat) => cnd z (some true) (Option.bind (idx a.Locations s.Reg) (fun y48 => (some (!y48.InSlot))))) (!(regOk c a e s)) := by
   cases hc : ((decide (s.Reg < 0)) || (decide (s.Reg ≥ c.Regs))) with
   | true =>
    refine ⟨true, Ev.t rfl (Ev.some _), Ev.t rfl ((Ev.some _).cast ?_)⟩
    have : (decide (0 ≤ s.Reg) && decide (s.Reg < c.Regs)) = false := by
     rw [Bool.eq_false_iff]; intro q; simp at q hc; omega
    unfold regOk; rw [this]; rfl
   | false =>
    have hc2 : 0 ≤ s.Reg ∧ s.Reg < c.Regs := by simp at hc; omega
    have : (decide (0 ≤ s.Reg) && decide (s.Reg < c.Regs)) = true := by simpa using hc2
    refine ⟨e.contains s.Reg, Ev.f rfl (Ev.bind (ev_contains he) (Ev.some _)), ?_⟩
    unfold regOk
    rw [this, Bool.true_and]
    cases he : e.contains s.Reg with
    | true => exact Ev.t rfl (Ev.some _)
    | false => exact Ev.f rfl (Ev.bindO (locA_idx (a := a) hc2.1 (by omega)) (Ev.some _))
  cases hro : regOk c a e s with
  | false =>
   rw [hro] at hz2
   have : allS c a e (s :: a.Spills.drop (i + 1)) = false := by rw [allS, okS_and, hro]; rfl
   rw [this]
   exact Ev.step (fun K k => rfl) (Ev.t (by simpa using hlt) (Ev.bindO hg (Ev.bind hz1 (Ev.bind hz2 (Ev.bind (x := true) (Ev.t rfl (Ev.some _)) (Ev.t rfl (Ev.out (Ev.some false))))))))
  | true =>
   rw [hro] at hz2
   have e3 := ev_rjustified h hl he hro hso
   have hre : (0 ≤ s.Reg ∧ s.Reg < c.Regs) ∧ s.Reg ∉ e := by
    unfold regOk at hro
    simp only [Bool.and_eq_true, decide_eq_true_eq, Bool.not_eq_true'] at hro
    exact ⟨hro.1.1, fun q => by have := List.contains_iff_mem.2 q; rw [hro.1.2] at this; cases this⟩
   cases hrs : rsnB c a e s with
   | false =>
    rw [hrs] at e3
    have : allS c a e (s :: a.Spills.drop (i + 1)) = false := by rw [allS, okS_and, hrs, Bool.and_false]; rfl
    rw [this]
    exact Ev.step (fun K k => rfl) (Ev.t (by simpa using hlt) (Ev.bindO hg (Ev.bind hz1 (Ev.bind hz2 (Ev.bind (x := true) (Ev.f rfl (Ev.bind e3 (Ev.some _))) (Ev.t rfl (Ev.out (Ev.some false))))))))
   | true =>
    rw [hrs] at e3
    have e5 := ih (i + 1) (e ++ [s.Reg]) (by omega) (by
     rw [List.nodup_append]
     refine ⟨hd, by simp, fun x hx y hy exy => ?_⟩
     rw [List.mem_singleton.1 hy] at exy
     exact hre.2 (exy ▸ hx)) (fun x hx => by
     rcases List.mem_append.1 hx with q | q
     ·exact hr x q
     ·rw [List.mem_singleton.1 q]; exact hre.1)
    have : allS c a e (s :: a.Spills.drop (i + 1)) = allS c a (e ++ [s.Reg]) (a.Spills.drop (i + 1)) := by rw [allS, okS_and, hro, hrs]; rfl
    rw [this]
    refine Ev.step (fun K k => rfl) (Ev.t (by simpa using hlt) (Ev.bindO hg (Ev.bind hz1 (Ev.bind hz2 (Ev.bind (x := false) (Ev.f rfl (Ev.bind e3 (Ev.some _))) (Ev.f rfl (Ev.bindO (app_eq (by simp; omega) (by simp; omega)) ?_)))))))
    rw [w64_succ (i := i) (by omega)]; exact e5
theorem rju_l1 {c : VFunc} (h : Vd c) {a : Allocation} (hl : (a.Locations.length : Int) = c.Regs) : Ev (fun K k => ref32_Justified_l1 K c a k (0, 0)) ((((List.range c.Regs.toNat).filter (fun r : Nat => (locA a (r : Int)).InSlot)).length : Nat) : Int) := by
 have hr0 := h.h.r0
 have hr1 := h.h.r1
 have key : ∀ n r : Nat, r + n = c.Regs.toNat → Ev (fun K k => ref32_Justified_l1 K c a k (((((List.range r).filter (fun r : Nat => (locA a (r : Int)).InSlot)).length : Nat) : Int), (r : Int))) ((((List.range c.Regs.toNat).filter (fun r : Nat => (locA a (r : Int)).InSlot)).length : Nat) : Int) := by
  intro n
  induction n with
  | zero =>
   intro r hr
   have : r = c.Regs.toNat := by omega
   subst this
   exact Ev.step (fun K k => rfl) (Ev.f (by simp; omega) (Ev.some _))
  | succ n ih =>
   intro r hr
   have e1 := locA_idx (a := a) (r := (r : Int)) (by omega) (by omega)
   have h1 := ih (r + 1) (by omega)
   rw [List.range_succ, List.filter_append, List.length_append] at h1
   have hle : ((List.range r).filter (fun r : Nat => (locA a (r : Int)).InSlot)).length ≤ r := by
    have := List.length_filter_le (fun r : Nat => (locA a (r : Int)).InSlot) (List.range r)
    simpa using this
   refine Ev.step (fun K k => rfl) (Ev.t (by simp; omega) (Ev.bind (x := (((((List.range r).filter (fun r : Nat => (locA a (r : Int)).InSlot)).length + ([r].filter (fun r : Nat => (locA a (r : Int)).InSlot)).length : Nat)) : Int)) (Ev.bindO e1 ?_) ?_))
   ·cases hs : (locA a (r : Int)).InSlot with
    | true => exact Ev.t rfl ((Ev.some _).cast (by rw [w64_succ (by omega), List.filter_cons, hs]; rfl))
    | false => exact Ev.f rfl ((Ev.some _).cast (by rw [List.filter_cons, hs]; rfl))
   ·rw [w64_succ (i := r) (by omega)]; exact h1
 exact key c.Regs.toNat 0 (by omega)
theorem ev_rjust {c : VFunc} (h : Vd c) {a : Allocation} (hsm : SmA a) : Ev (fun K _ => ref32_Justified K c a) (JB c a) := by
 unfold ref32_Justified JB
 by_cases hl : (a.Locations.length : Int) = c.Regs
 ·have hd : decide ((a.Locations.length : Int) = c.Regs) = true := by simpa using hl
  have e2 := rju_l2 h hl hsm a.Spills.length 0 [] (by omega) List.nodup_nil (fun x hx => by simp at hx)
  rw [List.drop_zero] at e2
  rw [hd, Bool.true_and]
  refine Ev.bind (ev_rvalid h.sm) (Ev.f (by rw [h.v]; simp [hl]) (Ev.bind (Ev.loop (rju_l1 h hl)) ?_))
  cases hall : allS c a [] a.Spills with
  | false =>
   rw [hall] at e2
   exact Ev.cnd (fun _ => Ev.some _) (fun _ => Ev.bind (ev_rint h) (Ev.sqr (Ev.loop e2)))
  | true =>
   rw [hall] at e2
   have hc := slots_count h.h.r0 hall
   rw [Bool.true_and, ← hc]
   refine Ev.cnd (fun q => (Ev.some _).cast ?_) (fun q => Ev.bind (ev_rint h) (Ev.sql (Ev.loop e2) ((Ev.some _).cast ?_)))
   ·symm; rw [decide_eq_false_iff_not]; rw [bne_iff_ne] at q; omega
   ·symm; rw [decide_eq_true_iff]; rw [bne_eq_false_iff_eq] at q; omega
 ·have hd : decide ((a.Locations.length : Int) = c.Regs) = false := by simpa using hl
  rw [hd]
  exact Ev.bind (ev_rvalid h.sm) (Ev.t (by rw [h.v]; simpa using hl) (Ev.some _))
theorem jst_len {c : VFunc} (h : Vd c) {sp : List Bool} {loc : List Location} {b : Nat} {pre : List Int} {x : Spill} (hj : Jst c sp loc b pre x) : x.Others.length ≤ 3000 := by
 cases hj with
 | call k i hk hi r eb ei o m => rw [o]; simp
 | pres k i hk hi r eb ei m u s n l =>
  have hl := (lp_sm h hk i).1
  exact RS.len h ⟨s, fun y hy => hl.r y (u y hy).1⟩
 | colr r eb ei l u => omega
theorem alc_sm {c : VFunc} (h : Vd c) {a : Allocation} (ha : Alc c a) : SmA a := by
 have hr1 := h.h.r1
 refine ⟨?_, fun s hs => ?_⟩
 ·have := nodup_len (n := c.Regs.toNat) ha.n fun x hx => by
   obtain ⟨y, hy, rfl⟩ := List.mem_map.1 hx
   have := ha.g y hy; omega
  rw [List.length_map] at this; omega
 ·obtain ⟨pre, post, e⟩ := List.append_of_mem hs
  have := jst_len h (ha.j pre s post e)
  omega
end Go.Proofs.YtocfnpnnbmicmaaDoor.Tc
end
section
set_option linter.unusedVariables false
set_option linter.unusedSimpArgs false
namespace Go.Proofs.YtocfnpnnbmicmaaDoor.Tc
open Go
def OkE {α : Type} (f : Nat → Nat → Option α) (P : α → Prop) : Prop := ∃ x, Ev f x ∧ P x
section
variable {α β S R : Type}
theorem OkE.ev {f : Nat → Nat → Option α} {P : α → Prop} {x : α} (h : Ev f x) (hp : P x) : OkE f P := ⟨x, h, hp⟩
theorem OkE.some {P : α → Prop} (x : α) (hp : P x) : OkE (fun _ _ => some x) P := ⟨x, Ev.some x, hp⟩
theorem OkE.of {P : α → Prop} {o : Option α} {x : α} (h : o = Option.some x) (hp : P x) : OkE (fun _ _ => o) P := ⟨x, Ev.of h, hp⟩
theorem OkE.bind {f : Nat → Nat → Option α} {g : Nat → Nat → α → Option β} {P : α → Prop} {Q : β → Prop} (h : OkE f P) (k : ∀ x, P x → OkE (fun K k => g K k x) Q) : OkE (fun K k => (f K k).bind (g K k)) Q := by
 obtain ⟨x, h1, h2⟩ := h
 obtain ⟨y, h3, h4⟩ := k x h2
 exact ⟨y, Ev.bind h1 h3, h4⟩
theorem OkE.bindO {o : Option α} {g : Nat → Nat → α → Option β} {x : α} {Q : β → Prop} (h : o = Option.some x) (k : OkE (fun K k => g K k x) Q) : OkE (fun K k => o.bind (g K k)) Q := by
 obtain ⟨y, h3, h4⟩ := k
 exact ⟨y, Ev.bindO h h3, h4⟩
theorem OkE.cnd {b : Bool} {f g : Nat → Nat → Option α} {Q : α → Prop} (h1 : b = true → OkE f Q) (h2 : b = false → OkE g Q) : OkE (fun K k => Tc.cnd b (f K k) (g K k)) Q := by
 cases b with
 | true => exact h1 rfl
 | false => exact h2 rfl
theorem OkE.mono {f : Nat → Nat → Option α} {P Q : α → Prop} (h : OkE f P) (k : ∀ x, P x → Q x) : OkE f Q := by
 obtain ⟨x, h1, h2⟩ := h
 exact ⟨x, h1, k x h2⟩
theorem OkE.loop {F : Nat → Nat → S → Option R} {s : S} {P : R → Prop} (h : OkE (fun K k => F K k s) P) : OkE (fun K _ => F K K s) P := by
 obtain ⟨x, h1, h2⟩ := h
 exact ⟨x, Ev.loop h1, h2⟩
theorem OkE.step {F : Nat → Nat → S → Option R} {s : S} {B : Nat → Nat → Option R} {P : R → Prop} (he : ∀ K k, F K (k + 1) s = B K k) (h : OkE B P) : OkE (fun K k => F K k s) P := by
 obtain ⟨x, h1, h2⟩ := h
 exact ⟨x, Ev.step he h1, h2⟩
theorem OkE.sq {f : Nat → Nat → Option (S ⊕ R)} {g : Nat → Nat → S → Option R} {P : S → Prop} {Q : R → Prop} (h : OkE f (fun x => match x with | .inl s => P s | .inr r => Q r)) (k : ∀ s, P s → OkE (fun K k => g K k s) Q) : OkE (fun K k => Tc.sq (f K k) (g K k)) Q := by
 obtain ⟨x, h1, h2⟩ := h
 cases x with
 | inl s => obtain ⟨y, h3, h4⟩ := k s h2; exact ⟨y, Ev.sql h1 h3, h4⟩
 | inr r => exact ⟨r, Ev.sqr h1, h2⟩
theorem OkE.out {f : Nat → Nat → Option R} {P : S ⊕ R → Prop} {Q : R → Prop} (h : OkE f Q) (k : ∀ r, Q r → P (.inr r)) : OkE (fun K k => (Tc.out (f K k) : Option (S ⊕ R))) P := by
 obtain ⟨x, h1, h2⟩ := h
 exact ⟨.inr x, Ev.out h1, k x h2⟩
theorem OkE.inn {P : S ⊕ R → Prop} (s : S) (h : P (.inl s)) : OkE (fun _ _ => (Tc.inn s : Option (S ⊕ R))) P := ⟨.inl s, Ev.inn s, h⟩
end
theorem OkE.pick {β : Type} (a : Int) {m : Int} (h0 : 0 < m) (h1 : m ≤ 1000000000000) {g : Nat → Nat → Int → Option β} {Q : β → Prop} (k : ∀ r, 0 ≤ r → r < m → OkE (fun K k => g K k r) Q) : OkE (fun K k => (keep_Pick a m).bind (g K k)) Q := by
 obtain ⟨r, e, h2, h3⟩ := pick_ok a h0 h1
 exact OkE.bindO e (k r h2 h3)
theorem OkE.idx {α β : Type} {l : List α} {i : Int} (h0 : 0 ≤ i) (h1 : i < l.length) {g : Nat → Nat → α → Option β} {Q : β → Prop} (k : ∀ y, y ∈ l → OkE (fun K k => g K k y) Q) : OkE (fun K k => (Tc.idx l i).bind (g K k)) Q := by
 have hlt : i.toNat < l.length := by omega
 have := idx_get hlt
 rw [show ((i.toNat : Nat) : Int) = i by omega] at this
 exact OkE.bindO this (k _ (List.getElem_mem hlt))
end Go.Proofs.YtocfnpnnbmicmaaDoor.Tc
end
section
set_option maxRecDepth 100000
namespace Go.Proofs.YtocfnpnnbmicmaaDoor.Tc
open Go
theorem exm18 (K : Nat) : law35_AllocCheckExamples (K + 100) = some true := by kernel_rfl
theorem ev_ex18 : Ev (fun K _ => law35_AllocCheckExamples K) true := ⟨100, fun K k hK hk => by
 obtain ⟨j, rfl⟩ : ∃ j, K = j + 100 := ⟨K - 100, by omega⟩
 exact exm18 j⟩
end Go.Proofs.YtocfnpnnbmicmaaDoor.Tc
end
section
set_option linter.unusedVariables false
set_option linter.unusedSimpArgs false
namespace Go.Proofs.YtocfnpnnbmicmaaDoor.Tc
open Go
structure SmB (n : Nat) (a : Allocation) : Prop where
 l : a.Locations.length ≤ 3000
 s : a.Spills.length ≤ n
 o : ∀ s, s ∈ a.Spills → s.Others.length ≤ n
theorem SmB.sm {n : Nat} {a : Allocation} (h : SmB n a) (hn : n ≤ 5000) : SmA a := ⟨by have := h.s; omega, fun s hs => by have := h.o s hs; omega⟩
theorem mut_ok {n : Nat} (hn : n ≤ 4000) {a : Allocation} (h : SmB n a) (x y z : Int) : OkE (fun _ _ => law35_mutate a x y z) (SmB (n + 1)) := by
 have hl := h.l
 have hs := h.s
 unfold law35_mutate
 refine OkE.bindO (app_eq (by simp; omega) (by simp; omega)) (OkE.bindO (app_eq (by simp; omega) (by simp; omega)) (OkE.pick z (by decide) (by decide) fun r9 _ _ => ?_))
 rw [List.nil_append, List.nil_append]
 refine OkE.bind (P := fun b => b = true → 0 < a.Locations.length) (OkE.cnd (fun q => OkE.pick x (by decide) (by decide) fun r _ _ => OkE.some _ (fun _ => by have := of_decide_eq_true q; omega)) (fun _ => OkE.some _ (fun q => by cases q))) fun b hb => OkE.cnd (fun q => ?_) (fun q => ?_)
 ·have hpos := hb q
  refine OkE.pick y (m := (a.Locations.length : Int)) (by omega) (by omega) fun r18 h0 h1 => OkE.idx h0 h1 fun y20 _ => OkE.bind (P := fun l : List Location => l.length ≤ 3000) (OkE.pick x (by decide) (by decide) fun r27 _ _ => OkE.cnd (fun _ => OkE.some _ (by simp; omega)) (fun _ => OkE.cnd (fun _ => OkE.some _ (by simp; omega)) (fun _ => OkE.cnd (fun _ => OkE.bindO (subLo_eq (n := 1) (by omega)) (OkE.some _ (by simp; omega))) (fun _ => OkE.some _ hl)))) fun l hl2 => OkE.some _ ⟨hl2, by show a.Spills.length ≤ _; omega, fun s hs => by have := h.o s hs; omega⟩
 ·refine OkE.bind (P := fun _ => True) (OkE.pick x (by decide) (by decide) fun r39 _ _ => OkE.cnd (fun _ => OkE.some _ trivial) (fun _ => OkE.some _ trivial)) fun s34 _ => ?_
  refine OkE.bind (P := fun ss : List Spill => ss.length ≤ n + 1 ∧ ∀ s, s ∈ ss → s.Others.length ≤ n) (OkE.pick x (by decide) (by decide) fun r47 _ _ => OkE.cnd (fun _ => OkE.pick z (by decide) (by decide) fun r50 _ _ => OkE.bindO (app_eq (by simp; omega) (by simp; omega)) (OkE.some _ ⟨by simp; omega, fun s hs => ?_⟩)) (fun _ => OkE.some _ ⟨by omega, h.o⟩)) fun ss hss => ?_
  ·rcases List.mem_append.1 hs with q | q
   ·exact h.o s q
   ·rw [List.mem_singleton.1 q]; simp
  refine OkE.cnd (fun _ => OkE.some _ ⟨hl, hss.1, fun s hs => by have := hss.2 s hs; omega⟩) (fun q => ?_)
  have hpos : 0 < ss.length := by rw [beq_eq_false_iff_ne] at q; omega
  have hsl := hss.1
  refine OkE.pick y (m := (ss.length : Int)) (by omega) (by omega) fun r56 h0 h1 => OkE.idx h0 h1 fun y58 hy => ?_
  have ho := hss.2 y58 hy
  refine OkE.bindO (app_eq (by simp; omega) (by simp; omega)) ?_
  rw [List.nil_append]
  refine OkE.sq (P := fun t : Int × Int × Int × Int × List Int => t.2.2.2.2.length ≤ n + 1) (Q := SmB (n + 1)) (OkE.pick x (by decide) (by decide) fun r69 _ _ => ?_) fun t ht => ?_
  ·refine OkE.cnd (fun _ => OkE.inn _ (by show y58.Others.length ≤ n + 1; omega)) (fun _ => OkE.cnd (fun _ => OkE.inn _ (by show y58.Others.length ≤ n + 1; omega)) (fun _ => OkE.cnd (fun _ => OkE.inn _ (by show y58.Others.length ≤ n + 1; omega)) (fun _ => OkE.cnd (fun _ => OkE.inn _ (by show y58.Others.length ≤ n + 1; omega)) (fun _ => OkE.cnd (fun _ => OkE.bindO (app_eq (by simp; omega) (by simp; omega)) (OkE.inn _ (by show (y58.Others ++ [_]).length ≤ n + 1; simp; omega))) (fun _ => OkE.cnd (fun _ => ?_) (fun _ => OkE.cnd (fun _ => ?_) (fun _ => OkE.inn _ (by show y58.Others.length ≤ n + 1; omega))))))))
   ·have hw : w64 ((y58.Others.length : Int) + 1) = ((y58.Others.length + 1 : Nat) : Int) := w64_succ (by omega)
    rw [hw]
    refine OkE.pick z (by omega) (by omega) fun r80 h2 h3 => ?_
    obtain ⟨r, rfl⟩ : ∃ r : Nat, r80 = (r : Int) := ⟨r80.toNat, by omega⟩
    exact OkE.bindO (subHi_eq (by omega)) (OkE.inn _ (by show (y58.Others.take r).length ≤ n + 1; simp; omega))
   ·refine OkE.idx (by omega) (by omega) fun y85 h85 => OkE.idx h0 h1 fun y87 h87 => OkE.idx h0 h1 fun y89 h89 => OkE.idx (by omega) (by rw [List.length_set]; omega) fun y91 h91 => OkE.out (Q := SmB (n + 1)) (OkE.some _ ⟨hl, by simp; omega, fun s hs => ?_⟩) fun r hr => hr
    have : s ∈ ss := by
     rcases List.mem_or_eq_of_mem_set hs with q | q
     ·rcases List.mem_or_eq_of_mem_set q with q | q
      ·exact q
      ·rw [q]; exact h85
     ·rw [q]; exact h87
    have := hss.2 s this; omega
  ·refine OkE.idx h0 h1 fun y93 _ => OkE.some _ ⟨hl, by simp; omega, fun s hs => ?_⟩
   rcases List.mem_or_eq_of_mem_set hs with q | q
   ·have := hss.2 s q; omega
   ·rw [q]; exact ht
theorem loose_ok {c : VFunc} (h : Vd c) {l : List Int} (hl : l.length ≤ 17592186044000) : OkE (fun K _ => keep2_LooseAllocation K c l) (SmB 0) := by
 have hr0 := h.h.r0
 have hr1 := h.h.r1
 have g := gr_IF h
 obtain ⟨ea, hac⟩ := ev_racross h
 have l2 : ∀ (r : Nat), r < c.Regs.toNat → ∀ (s : List Location), s.length = c.Regs.toNat → ∀ (m : Int) (n j : Nat) (b : Bool), j + n = (IF c r).length → OkE (fun K k => keep2_LooseAllocation_l2 K c (IFs c) ((r : Int), s) m k (b, (j : Int))) (fun _ => True) := by
  intro r hr s hs m n
  have hx : idx (IFs c) (r : Int) = some (IF c r) := idx_eq (IFs_get hr)
  have hlen := (g.s r).len h
  induction n with
  | zero =>
   intro j b hj
   exact OkE.step (fun K k => rfl) (OkE.bindO hx (OkE.ev (Ev.f (by simp; omega) (Ev.some _)) trivial))
  | succ n ih =>
   intro j b hj
   have hlt : j < (IF c r).length := by omega
   have hg := idx_get hlt
   have hyr := (g.s r).r _ (List.getElem_mem hlt)
   have hw : w64 ((j : Int) + 1) = ((j + 1 : Nat) : Int) := w64_succ (by omega)
   refine OkE.step (fun K k => rfl) (OkE.bindO hx (OkE.cnd (fun _ => ?_) (fun q => by have := of_decide_eq_false q; omega)))
   simp only [hw]
   refine OkE.cnd (fun _ => OkE.bindO hx (OkE.bindO hg (OkE.cnd (fun _ => ih _ _ (by omega)) (fun _ => OkE.bindO hx (OkE.bindO hg (OkE.idx hyr.1 (by rw [List.length_set]; omega) fun y59 _ => ih _ _ (by omega))))))) (fun _ => ih _ _ (by omega))
 have l1 : ∀ (n r : Nat) (s : List Location), r + n = c.Regs.toNat → s.length = c.Regs.toNat → OkE (fun K k => keep2_LooseAllocation_l1 K c l (IFs c) (AC c) k ((r : Int), s)) (fun s => s.length = c.Regs.toNat) := by
  intro n
  induction n with
  | zero =>
   intro r s hr hs
   exact OkE.step (fun K k => rfl) (OkE.ev (Ev.f (by simp; omega) (Ev.some _)) hs)
  | succ n ih =>
   intro r s hr hs
   have hw : w64 ((r : Int) + 1) = ((r + 1 : Nat) : Int) := w64_succ (by omega)
   refine OkE.step (fun K k => rfl) (OkE.cnd (fun _ => ?_) (fun q => by have := of_decide_eq_false q; omega))
   simp only [hw]
   refine OkE.bind (P := fun s : List Location => s.length = c.Regs.toNat) (OkE.idx (by omega) (by omega) fun y24 _ => OkE.bind (P := fun b => b = false → r < l.length) (OkE.cnd (fun _ => OkE.some _ (fun q => by cases q)) (fun q => OkE.bind (P := fun _ => True) (OkE.ev (ev_contains' h hac) trivial) fun _ _ => OkE.some _ (fun _ => by have := of_decide_eq_false q; omega))) fun z27 hz => OkE.cnd (fun _ => OkE.some _ (by simp; omega)) (fun q => ?_)) fun s' hs' => ih (r + 1) s' (by omega) hs'
   have hz := hz (by cases z27 with | false => rfl | true => simp at q)
   refine OkE.idx (by omega) (by omega) fun y34 _ => OkE.pick y34 (by decide) (by decide) fun r36 _ _ => OkE.bind (P := fun _ => True) (OkE.loop (l2 r (by omega) s hs r36 (IF c r).length 0 (decide (r36 < 5)) (by omega))) fun b _ => OkE.cnd (fun _ => OkE.idx (by omega) (by rw [List.length_set]; omega) fun y62 _ => OkE.some _ (by simp; omega)) (fun _ => OkE.some _ (by simp; omega))
 unfold keep2_LooseAllocation
 exact OkE.bindO (mkR h (by omega) _) (OkE.bind (P := fun x => x = IFs c) (OkE.ev (ev_rint h) rfl) fun x hx => OkE.bind (P := fun y => y = AC c) (OkE.ev ea rfl) fun y hy => by
  subst hx hy
  exact OkE.bind (P := fun s : List Location => s.length = c.Regs.toNat) (OkE.loop (l1 c.Regs.toNat 0 _ (by omega) (by simp))) fun s hs => OkE.some _ ⟨by show s.length ≤ 3000; omega, by simp, fun s hs => by simp at hs⟩)
theorem mat_l1 {c : VFunc} (h : Vd c) {raw m x m2 x2 : Allocation} {a : Allocation × Int} (hl : ∀ y, y ∈ [a.1, m, m2, x, x2, raw] → SmA y) : Ev (fun K k => law35_AllocCheckMatches_l1 K raw c a m x m2 x2 k 0) (.inl ()) := by
 have key : Ev (fun K k => law35_AllocCheckMatches_l1 K raw c a m x m2 x2 k ((0 : Nat) : Int)) (.inl ()) := by
  refine upto (P := fun i => Ev (fun K k => law35_AllocCheckMatches_l1 K raw c a m x m2 x2 k (i : Int)) (.inl ())) (n := 6) (Ev.step (fun K k => rfl) (Ev.f (by simp) (Ev.inn ()))) fun i hi ih => ?_
  have hlt : i < [a.1, m, m2, x, x2, raw].length := by simpa using hi
  have hg := idx_get hlt
  have hy := hl _ (List.getElem_mem hlt)
  generalize [a.1, m, m2, x, x2, raw][i] = y at hg hy
  have s1 := ev_psound h y
  have s2 := ev_rsound h y
  have j1 := ev_pjust h hy
  have j2 := ev_rjust h hy
  have c1 := ev_check s1 fun _ => j1
  refine Ev.step (fun K k => rfl) (Ev.t (by simp; omega) (Ev.bindO hg (Ev.bind (x := false) (Ev.bind s1 (Ev.bind s2 (Ev.f (by simp) (Ev.bind j1 (Ev.bind j2 (Ev.f (by simp) (Ev.bind c1 (Ev.bind s2 ?_)))))))) (Ev.f rfl ?_))))
  ·cases SB c y with
   | true => exact Ev.t rfl (Ev.bind j2 ((Ev.some _).cast (by simp)))
   | false => exact Ev.f rfl ((Ev.some _).cast (by simp))
  ·rw [w64_succ (i := i) (by omega)]; exact ih
 simpa using key
theorem pure19 (l : List Int) (a1 a2 a3 a4 a5 : Int) (locs : List Int) (raw : Allocation) (_ : lenOk 8 l ∧ ∀ x, x ∈ l → I64 x) (_ : I64 a1) (_ : I64 a2) (_ : I64 a3) (_ : I64 a4) (_ : I64 a5) (hlo : lenOk 8 locs ∧ ∀ x, x ∈ locs → I64 x) (hraw : ok_Allocation raw) : ∃ K, law35_AllocCheckMatches K l a1 a2 a3 a4 a5 locs raw = some true := by
 refine Ev.fst ?_
 unfold law35_AllocCheckMatches
 refine ev_head fun p c hc => ?_
 have h := hc.vd
 have hr := hc.hr
 have hp2 := hc.p2
 have ha := alc h
 have hsm := alc_sm h ha
 have er := ev_ralloc h
 rw [hc.al] at er
 have hll : locs.length ≤ 17592186044000 := by have := hlo.1.1; unfold reachBytes at this; omega
 have hb : SmB 3000 (ALa c) := by
  have hl := ha.l
  refine ⟨by omega, ?_, fun s hs => ?_⟩
  ·have := nodup_len (n := c.Regs.toNat) ha.n fun x hx => by
    obtain ⟨y, hy, rfl⟩ := List.mem_map.1 hx
    have := ha.g y hy; omega
   rw [List.length_map] at this; omega
  ·obtain ⟨pre, post, e⟩ := List.append_of_mem hs
   exact jst_len h (ha.j pre s post e)
 obtain ⟨m, em, hm⟩ := mut_ok (by omega) hb a2 a3 a4
 obtain ⟨x, ex, hx⟩ := loose_ok h hll
 obtain ⟨m2, em2, hm2⟩ := mut_ok (by omega) hm a5 a4 a3
 obtain ⟨x2, ex2, hx2⟩ := mut_ok (by omega) hx a2 a3 a4
 refine Ev.bind er (Ev.bind em (Ev.bind ex (Ev.bind em2 (Ev.bind ex2 (Ev.sql (Ev.loop (mat_l1 h fun y hy => ?_)) (Ev.bind ev_ex18 (Ev.some _)))))))
 simp only [List.mem_cons, List.not_mem_nil, or_false] at hy
 rcases hy with rfl | rfl | rfl | rfl | rfl | rfl
 ·exact hsm
 ·exact hm.sm (by omega)
 ·exact hm2.sm (by omega)
 ·exact hx.sm (by omega)
 ·exact hx2.sm (by omega)
 ·have h1 := hraw.2.1.1.1
  unfold reachBytes at h1
  refine ⟨by omega, fun s hs => ?_⟩
  have h2 := (hraw.2.1.2 s hs).2.2.2.2.1.1
  unfold reachBytes at h2
  omega
end Go.Proofs.YtocfnpnnbmicmaaDoor.Tc
end
