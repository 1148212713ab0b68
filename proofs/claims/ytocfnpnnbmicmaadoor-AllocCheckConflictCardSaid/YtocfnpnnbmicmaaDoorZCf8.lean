/- The plain laws: what the pure functions come to. -/
import Derived.Test.YtocfnpnnbmicmaaDoorZCf7
section
set_option linter.unusedVariables false
set_option linter.unusedSimpArgs false
namespace Go.Proofs.YtocfnpnnbmicmaaDoor.Tc
open Go
theorem owns_get {l : List Int} {sp : List Bool} {loc : List Location} {r m : Nat} (h : m < 5) : (owns l sp loc r)[m]? = some (own l sp loc r m) := by
  unfold owns; rw [List.getElem?_map, List.getElem?_range h]; rfl
theorem owns_len (l : List Int) (sp : List Bool) (loc : List Location) (r : Nat) : (owns l sp loc r).length = 5 := by simp [owns]
theorem own_neg {l : List Int} {sp : List Bool} {loc : List Location} {r : Nat} {m : Int} (hl : ∀ y, y ∈ l → 0 ≤ y) (h : own l sp loc r m < 0) : ∀ y, y ∈ l → y < (r : Int) → isSp sp y = false → (locL loc y).Index ≠ m := by
  unfold own at h
  cases hf : l.find? (owP sp loc r m) with
  | some y => rw [hf] at h; have := hl y (List.mem_of_find?_eq_some hf); simp at h; omega
  | none =>
    intro y hy h1 h2 h3
    have := List.find?_eq_none.1 hf y hy
    apply this
    unfold owP
    simp [h1, h2, h3]
theorem own_pos {l : List Int} {sp : List Bool} {loc : List Location} {r : Nat} {m : Int} (h : 0 ≤ own l sp loc r m) : own l sp loc r m ∈ l ∧ own l sp loc r m < (r : Int) ∧ isSp sp (own l sp loc r m) = false ∧ (locL loc (own l sp loc r m)).Index = m := by
  unfold own at h ⊢
  cases hf : l.find? (owP sp loc r m) with
  | none => rw [hf] at h; simp at h
  | some y =>
    have h1 := List.mem_of_find?_eq_some hf
    have h2 := List.find?_some hf
    unfold owP at h2
    simp only [Bool.and_eq_true, decide_eq_true_eq, Bool.not_eq_true', beq_iff_eq] at h2
    exact ⟨h1, h2.1.1, h2.1.2, h2.2⟩
/-- What the coloring keeps. -/
structure C3 (c : VFunc) (r : Nat) (q : AState × List Location) : Prop where
  s : SI c q.1
  l : q.2.length = c.Regs.toNat
  a : ∀ x, x ∈ AC c → isSp q.1.sp x = true
  k : ∀ y : Nat, y < r → isSp q.1.sp (y : Int) = false → ∃ m : Nat, m < 5 ∧ locL q.2 (y : Int) = ⟨false, (m : Int)⟩
  d : ∀ y z : Nat, y < r → z < r → isSp q.1.sp (y : Int) = false → isSp q.1.sp (z : Int) = false → (y : Int) ∈ IF c z → (locL q.2 (y : Int)).Index ≠ (locL q.2 (z : Int)).Index
  j : JL c q.1.sp q.2 r q.1.ss
theorem C3.step {c : VFunc} (h : Vd c) {r : Nat} (hr : r < c.Regs.toNat) {q : AState × List Location} (hq : C3 c r q) : C3 c (r + 1) (col c q r) := by
  have g := gr_IF h
  have hsl := hq.s.l
  have hl := hq.l
  have hpos : ∀ y, y ∈ IF c r → 0 ≤ y := fun y hy => ((g.s r).r y hy).1
  unfold col
  cases hsp : isSp q.1.sp (r : Int) with
  | true =>
    rw [if_pos rfl]
    refine ⟨hq.s, hl, hq.a, fun y hy hu => ?_, fun y z hy hz hu hv => ?_, hq.j.mono (by omega) fun y h0 h1 h2 => ⟨h2, rfl⟩⟩
    · have : y ≠ r := fun e => by rw [e, hsp] at hu; cases hu
      exact hq.k y (by omega) hu
    · have : y ≠ r := fun e => by rw [e, hsp] at hu; cases hu
      have : z ≠ r := fun e => by rw [e, hsp] at hv; cases hv
      exact hq.d y z (by omega) (by omega) hu hv
  | false =>
    rw [if_neg (by simp)]
    cases hf : frM (IF c r) q.1.sp q.2 r with
    | some m =>
      unfold frM at hf
      have hm := List.mem_range.1 (List.mem_of_find?_eq_some hf)
      have hneg : own (IF c r) q.1.sp q.2 r (m : Int) < 0 := by have := List.find?_some hf; simpa using this
      have hno := own_neg hpos hneg
      have hset : ∀ y : Nat, locL (q.2.set r ⟨false, (m : Int)⟩) (y : Int) = if y = r then ⟨false, (m : Int)⟩ else locL q.2 (y : Int) := fun y => locL_set (by omega)
      refine ⟨hq.s, by simp [hl], hq.a, fun y hy hu => ?_, fun y z hy hz hu hv hyz => ?_, hq.j.mono (by omega) fun y h0 h1 h2 => ⟨h2, ?_⟩⟩
      · show ∃ m : Nat, m < 5 ∧ locL (q.2.set r _) _ = _
        rw [hset]
        by_cases e : y = r
        · exact ⟨m, hm, by rw [if_pos e]⟩
        · rw [if_neg e]; exact hq.k y (by omega) hu
      · show (locL (q.2.set r _) _).Index ≠ (locL (q.2.set r _) _).Index
        rw [hset, hset]
        by_cases e : y = r
        · subst e
          rw [if_pos rfl]
          by_cases e2 : z = y
          · subst e2; exact absurd hyz (g.i z)
          · rw [if_neg e2]
            have := hno z (g.y _ _ hyz) (by omega) hv
            exact fun q => this q.symm
        · rw [if_neg e]
          by_cases e2 : z = r
          · subst e2; rw [if_pos rfl]; exact hno y hyz (by omega) hu
          · rw [if_neg e2]; exact hq.d y z (by omega) (by omega) hu hv hyz
      · have := hset y.toNat
        rw [show ((y.toNat : Nat) : Int) = y by omega] at this
        show locL (q.2.set r _) y = _
        rw [this, if_neg (by omega)]
    | none =>
      unfold frM at hf
      have hown : ∀ m : Nat, m < 5 → 0 ≤ own (IF c r) q.1.sp q.2 r m := fun m hm => by
        have := List.find?_eq_none.1 hf m (List.mem_range.2 hm)
        simpa using this
      have hs' := hq.s.spl (x := ⟨r, 3, 0, 0, owns (IF c r) q.1.sp q.2 r⟩) (show (0 : Int) ≤ r by omega) (show (r : Int) < c.Regs by omega) hsp
      have hset : ∀ y : Int, 0 ≤ y → isSp (q.1.sp.set r true) y = (isSp q.1.sp y || y == (r : Int)) := fun y hy => by
        have := isSp_set (sp := q.1.sp) (x := (r : Int)) (r := y) (by omega) (by omega) hy
        simpa using this
      have hback : ∀ y : Int, 0 ≤ y → isSp (q.1.sp.set r true) y = false → isSp q.1.sp y = false ∧ y ≠ r := fun y hy hu => by
        rw [hset y hy, Bool.or_eq_false_iff, beq_eq_false_iff_ne] at hu; exact hu
      refine ⟨hs', hl, fun x hx => ?_, fun y hy hu => ?_, fun y z hy hz hu hv hyz => ?_, ?_⟩
      · have hxr := (ev_racross h).2.r x hx
        show isSp (q.1.sp.set r true) x = true
        rw [hset x hxr.1, hq.a x hx]; rfl
      · have hb := hback y (by omega) hu
        exact hq.k y (by omega) hb.1
      · have hb := hback y (by omega) hu
        have hb2 := hback z (by omega) hv
        exact hq.d y z (by omega) (by omega) hb.1 hb2.1 hyz
      · have hm : ∀ y : Int, 0 ≤ y → y < r → isSp q.1.sp y = false → isSp (q.1.sp.set r true) y = false := fun y h0 h1 h2 => by
          rw [hset y h0, h2]; simp; omega
        refine JL.snoc (hq.j.mono (by omega) fun y h0 h1 h2 => ⟨hm y h0 h1 h2, rfl⟩) (.colr rfl rfl rfl (owns_len _ _ _ _) fun m y hy => ?_)
        have hm5 : m < 5 := by
          have := (List.getElem?_eq_some_iff.1 hy).1
          rw [owns_len] at this; exact this
        rw [owns_get hm5] at hy
        have hy := Option.some.inj hy
        have h0 := hown m hm5
        obtain ⟨h1, h2, h3, h4⟩ := own_pos h0
        rw [hy] at h0 h1 h2 h3 h4
        refine ⟨by simpa using h1, h0, by omega, hm y h0 h2 h3, ?_⟩
        obtain ⟨m', _, e⟩ := hq.k y.toNat (by omega) (by rw [show ((y.toNat : Nat) : Int) = y by omega]; exact h3)
        rw [show ((y.toNat : Nat) : Int) = y by omega] at e
        rw [e] at h4 ⊢
        rw [show ((m' : Nat) : Int) = m from h4]
theorem c3_fin {c : VFunc} (h : Vd c) : C3 c c.Regs.toNat (fin3 c) := by
  obtain ⟨h1, h2, h3⟩ := ph2_ok h
  unfold fin3 ph3
  exact foldl_rng (P := C3 c) c.Regs.toNat (fun i a hi ha => ha.step h hi) ⟨h1, by simp [loc0], h2, fun y hy => by omega, fun y z hy => by omega, h3 _ _ _⟩
/-- What the slots keep. -/
structure C4 (c : VFunc) (sp : List Bool) (loc : List Location) (r : Nat) (q : List Location × Int) : Prop where
  l : q.1.length = c.Regs.toNat
  k : ∀ y : Nat, (r ≤ y ∨ isSp sp (y : Int) = false) → locL q.1 (y : Int) = locL loc (y : Int)
  s : ∀ y : Nat, y < r → isSp sp (y : Int) = true → ∃ j, locL q.1 (y : Int) = ⟨true, j⟩ ∧ c.Params ≤ j ∧ j < q.2
  d : ∀ y z : Nat, y < r → z < r → y ≠ z → isSp sp (y : Int) = true → isSp sp (z : Int) = true → (locL q.1 (y : Int)).Index ≠ (locL q.1 (z : Int)).Index
  b : c.Params ≤ q.2 ∧ q.2 ≤ c.Params + r
theorem C4.step {c : VFunc} {sp : List Bool} {loc : List Location} {r : Nat} (hr : r < c.Regs.toNat) {q : List Location × Int} (hq : C4 c sp loc r q) : C4 c sp loc (r + 1) (slo sp q r) := by
  have hl := hq.l
  have hb := hq.b
  unfold slo
  cases hsp : isSp sp (r : Int) with
  | false =>
    rw [if_neg (by simp)]
    refine ⟨hl, fun y hy => hq.k y (by rcases hy with q | q; exact .inl (by omega); exact .inr q), fun y hy hu => ?_, fun y z hy hz hne hu hv => ?_, by omega⟩
    · have : y ≠ r := fun e => by rw [e, hsp] at hu; cases hu
      exact hq.s y (by omega) hu
    · have : y ≠ r := fun e => by rw [e, hsp] at hu; cases hu
      have : z ≠ r := fun e => by rw [e, hsp] at hv; cases hv
      exact hq.d y z (by omega) (by omega) hne hu hv
  | true =>
    rw [if_pos rfl]
    have hset : ∀ y : Nat, locL (q.1.set r ⟨true, q.2⟩) (y : Int) = if y = r then ⟨true, q.2⟩ else locL q.1 (y : Int) := fun y => locL_set (by omega)
    refine ⟨by simp [hl], fun y hy => ?_, fun y hy hu => ?_, fun y z hy hz hne hu hv => ?_, by show _ ≤ q.2 + 1 ∧ q.2 + 1 ≤ _; omega⟩
    · have : y ≠ r := fun e => by rw [e, hsp] at hy; rcases hy with q | q; omega; cases q
      show locL (q.1.set r _) _ = _
      rw [hset, if_neg this]
      exact hq.k y (by rcases hy with q | q; exact .inl (by omega); exact .inr q)
    · show ∃ j, locL (q.1.set r _) _ = _ ∧ _ ∧ j < q.2 + 1
      rw [hset]
      by_cases e : y = r
      · exact ⟨q.2, by rw [if_pos e], hb.1, by omega⟩
      · rw [if_neg e]
        obtain ⟨j, h1, h2, h3⟩ := hq.s y (by omega) hu
        exact ⟨j, h1, h2, by omega⟩
    · show (locL (q.1.set r _) _).Index ≠ (locL (q.1.set r _) _).Index
      rw [hset, hset]
      by_cases e : y = r
      · rw [if_pos e, if_neg (by omega)]
        obtain ⟨j, h1, h2, h3⟩ := hq.s z (by omega) hv
        rw [h1]; show q.2 ≠ j; omega
      · rw [if_neg e]
        by_cases e2 : z = r
        · rw [if_pos e2]
          obtain ⟨j, h1, h2, h3⟩ := hq.s y (by omega) hu
          rw [h1]; show j ≠ q.2; omega
        · rw [if_neg e2]; exact hq.d y z (by omega) (by omega) hne hu hv
theorem c4_fin {c : VFunc} (h : Vd c) : C4 c (fin3 c).1.sp (fin3 c).2 c.Regs.toNat (fin4 c) := by
  have h3 := c3_fin h
  unfold fin4 ph4
  exact foldl_rng (P := C4 c (fin3 c).1.sp (fin3 c).2) c.Regs.toNat (fun i a hi ha => ha.step hi) ⟨h3.l, fun y hy => rfl, fun y hy => by omega, fun y z hy => by omega, by show _ ≤ c.Params ∧ c.Params ≤ _; omega⟩
/-- An allocation as the allocator makes it. -/
structure Alc (c : VFunc) (a : Allocation) : Prop where
  l : a.Locations.length = c.Regs.toNat
  s : c.Params ≤ a.Slots ∧ a.Slots ≤ c.Params + c.Regs
  n : (a.Spills.map Spill.Reg).Nodup
  g : ∀ x, x ∈ a.Spills → 0 ≤ x.Reg ∧ x.Reg < c.Regs
  i : ∀ r : Int, 0 ≤ r → r < c.Regs → ((locA a r).InSlot = true ↔ r ∈ a.Spills.map Spill.Reg)
  k : ∀ r : Int, 0 ≤ r → r < c.Regs → slotT c a (locA a r) = true
  d : ∀ (r : Nat) (y : Int), r < c.Regs.toNat → y ∈ IF c r → sameL (locA a (r : Int)) (locA a y) = false
  w : ∀ x, x ∈ AC c → (locA a x).InSlot = true
  j : ∀ pre x post, a.Spills = pre ++ x :: post → Jst c (fin3 c).1.sp a.Locations c.Regs.toNat (pre.map Spill.Reg) x
theorem alc {c : VFunc} (h : Vd c) : Alc c (ALa c) := by
  have h3 := c3_fin h
  have h4 := c4_fin h
  have g := gr_IF h
  have hr0 := h.h.r0
  have hloc : ∀ y : Nat, locA (ALa c) (y : Int) = locL (fin4 c).1 (y : Int) := fun y => rfl
  have hun : ∀ y : Nat, y < c.Regs.toNat → isSp (fin3 c).1.sp (y : Int) = false → ∃ m : Nat, m < 5 ∧ locA (ALa c) (y : Int) = ⟨false, (m : Int)⟩ := fun y hy hu => by
    obtain ⟨m, h5, h6⟩ := h3.k y hy hu
    exact ⟨m, h5, by rw [hloc, h4.k y (.inr hu)]; exact h6⟩
  have hin : ∀ y : Nat, y < c.Regs.toNat → isSp (fin3 c).1.sp (y : Int) = true → ∃ j, locA (ALa c) (y : Int) = ⟨true, j⟩ ∧ c.Params ≤ j ∧ j < (ALa c).Slots := fun y hy hu => h4.s y hy hu
  have hnat : ∀ r : Int, 0 ≤ r → ((r.toNat : Nat) : Int) = r := fun r hr => by omega
  have hi : ∀ r : Int, 0 ≤ r → r < c.Regs → ((locA (ALa c) r).InSlot = true ↔ r ∈ (ALa c).Spills.map Spill.Reg) := fun r r0 r1 => by
    rw [show (ALa c).Spills = (fin3 c).1.ss from rfl, ← h3.s.m r r0]
    cases hu : isSp (fin3 c).1.sp r with
    | true =>
      obtain ⟨j, e, _⟩ := hin r.toNat (by omega) (by rw [hnat r r0]; exact hu)
      rw [hnat r r0] at e
      rw [e]
    | false =>
      obtain ⟨m, _, e⟩ := hun r.toNat (by omega) (by rw [hnat r r0]; exact hu)
      rw [hnat r r0] at e
      rw [e]
  refine ⟨h4.l, ?_, h3.s.d, h3.s.g, hi, fun r r0 r1 => ?_, fun r y hr hy => ?_, fun x hx => ?_, ?_⟩
  · have hb := h4.b
    show c.Params ≤ (fin4 c).2 ∧ (fin4 c).2 ≤ _
    omega
  · unfold slotT
    cases hu : isSp (fin3 c).1.sp r with
    | true =>
      obtain ⟨j, e, h5, h6⟩ := hin r.toNat (by omega) (by rw [hnat r r0]; exact hu)
      rw [hnat r r0] at e
      rw [e, if_pos rfl]
      show (!(decide (j < c.Params) || decide (j ≥ (ALa c).Slots))) = true
      simp; omega
    | false =>
      obtain ⟨m, h5, e⟩ := hun r.toNat (by omega) (by rw [hnat r r0]; exact hu)
      rw [hnat r r0] at e
      rw [e, if_neg (by simp)]
      show (!(decide ((m : Int) < 0) || decide ((m : Int) ≥ 5))) = true
      simp; omega
  · have hyr := (g.s r).r y hy
    have hne : r ≠ y.toNat := fun e => g.i r (by rw [e, hnat y hyr.1]; rw [e] at hy; exact hy)
    have hys : ((y.toNat : Nat) : Int) ∈ IF c r := by rw [hnat y hyr.1]; exact hy
    rw [← hnat y hyr.1]
    unfold sameL
    cases hu : isSp (fin3 c).1.sp (r : Int) with
    | true =>
      obtain ⟨j, e, _⟩ := hin r hr hu
      cases hv : isSp (fin3 c).1.sp ((y.toNat : Nat) : Int) with
      | true =>
        have := h4.d r y.toNat hr (by omega) hne hu hv
        rw [← hloc, ← hloc] at this
        have e2 : ((locA (ALa c) (r : Int)).Index == (locA (ALa c) ((y.toNat : Nat) : Int)).Index) = false := by simpa using this
        rw [e2, Bool.and_false]
      | false =>
        obtain ⟨m, _, e2⟩ := hun y.toNat (by omega) hv
        rw [e, e2]; rfl
    | false =>
      obtain ⟨m, h5, e⟩ := hun r hr hu
      cases hv : isSp (fin3 c).1.sp ((y.toNat : Nat) : Int) with
      | true =>
        obtain ⟨j, e2, _⟩ := hin y.toNat (by omega) hv
        rw [e, e2]; rfl
      | false =>
        have := h3.d y.toNat r (by omega) hr hv hu hys
        rw [← h4.k r (.inr hu), ← h4.k y.toNat (.inr hv), ← hloc, ← hloc] at this
        have e2 : ((locA (ALa c) (r : Int)).Index == (locA (ALa c) ((y.toNat : Nat) : Int)).Index) = false := by
          rw [beq_eq_false_iff_ne]; exact fun q => this q.symm
        rw [e2, Bool.and_false]
  · have hxr := (ev_racross h).2.r x hx
    rw [hi x hxr.1 hxr.2, show (ALa c).Spills = (fin3 c).1.ss from rfl, ← h3.s.m x hxr.1]
    exact h3.a x hx
  · refine h3.j.mono (Nat.le_refl _) fun y h0 h1 h2 => ⟨h2, ?_⟩
    have := h4.k y.toNat (.inr (by rw [hnat y h0]; exact h2))
    rw [hnat y h0] at this
    exact this
end Go.Proofs.YtocfnpnnbmicmaaDoor.Tc
end
section
set_option linter.unusedVariables false
set_option linter.unusedSimpArgs false
namespace Go.Proofs.YtocfnpnnbmicmaaDoor.Tc
open Go
theorem op13 : (opI 13).ReadsA = false ∧ (opI 13).ReadsB = false ∧ (opI 13).WritesA = true ∧ alw 13 = true := ⟨by kernel_rfl, by kernel_rfl, by kernel_rfl, by kernel_rfl⟩
theorem op38 : (opI 38).ReadsA = false ∧ (opI 38).ReadsB = false ∧ alw 38 = true := ⟨by kernel_rfl, by kernel_rfl, by kernel_rfl⟩
theorem rd_init {v : VInstr} (h : v.Instr.Op = 13 ∨ v.Instr.Op = 38) : rd v = [] ∧ wr v = [v.Instr.A] := by
  unfold rd wr rdRaw
  rcases h with h | h
  · rw [h, op13.1, op13.2.1, op13.2.2.1, op13.2.2.2]; exact ⟨rfl, rfl⟩
  · rw [h, op38.1, op38.2.1, op38.2.2]
    refine ⟨rfl, ?_⟩
    have : ((opI 38).WritesA || ((38 : Int) == 6) || ((38 : Int) == 38)) = true := by simp
    rw [this]; rfl
theorem init_foldr {vs : List VInstr} {l : List Int} {x : Int} (h : ∀ v, v ∈ vs → rd v = []) (hx : x ∈ vs.foldr tr l) : ∀ v, v ∈ vs → x ∉ wr v := by
  induction vs with
  | nil => intro v hv; simp at hv
  | cons w vs ih =>
    rcases mem_tr.1 hx with ⟨h1, h2⟩ | h1
    · intro v hv
      rcases List.mem_cons.1 hv with e | e
      · rw [e]; exact h2
      · exact ih (fun v hv => h v (by simp [hv])) h1 v e
    · rw [h w (by simp)] at h1; simp at h1
theorem LI0_nil {c : VFunc} (h : Vd c) {pre rest : List VInstr} (e : (bk c 0).Instrs = pre ++ rest) (hr : ∀ v, v ∈ pre → rd v = []) (hw : ∀ x : Int, 0 ≤ x → x < c.Regs → ∃ v, v ∈ pre ∧ x ∈ wr v) : LI c 0 = [] := by
  have hb := h.h.b0
  refine List.eq_nil_iff_forall_not_mem.2 fun x hx => ?_
  have hreg := (RS.LI h 0).r x hx
  rw [LI_eq h (by omega)] at hx
  unfold blkIn at hx
  rw [e, List.foldr_append] at hx
  obtain ⟨v, hv, hxw⟩ := hw x hreg.1 hreg.2
  exact init_foldr hr hx v hv hxw
theorem iv0_rd {p : Int} {r : Nat} : rd (iv0 p r) = [] ∧ wr (iv0 p r) = [(r : Int)] := rd_init (v := iv0 p r) (by
  show (if (r : Int) < p then (38 : Int) else 13) = 13 ∨ (if (r : Int) < p then (38 : Int) else 13) = 38
  split
  · exact .inr rfl
  · exact .inl rfl)
theorem VF.li0 {p : Int} {c : VFunc} (h : VF p c) : LI c 0 = [] := by
  have h0 := h.p0
  have hr := h.hr
  refine LI0_nil h.vd (pre := (List.range (9 + p.toNat)).map (iv0 p)) (rest := []) (by rw [h.b0]; simp [firstB]) (fun v hv => ?_) fun x hx0 hx1 => ?_
  · obtain ⟨r, _, rfl⟩ := List.mem_map.1 hv
    exact iv0_rd.1
  · refine ⟨iv0 p x.toNat, List.mem_map.2 ⟨x.toNat, List.mem_range.2 (by omega), rfl⟩, ?_⟩
    rw [iv0_rd.2]; simp; omega
end Go.Proofs.YtocfnpnnbmicmaaDoor.Tc
end
section
set_option linter.unusedVariables false
set_option linter.unusedSimpArgs false
namespace Go.Proofs.YtocfnpnnbmicmaaDoor.Tc
open Go
/-- A loop over a list that folds, with what holds at each place. -/
theorem ev_foldi {α A S R : Type} (l : List α) (F : Nat → Nat → Int → S → Option R) (fin : S → R) (g : A → α → A) (Rp : Nat → A → S → Prop)
    (hend : ∀ a s, Rp l.length a s → Ev (fun K k => F K k (l.length : Int) s) (fin s))
    (hstep : ∀ (i : Nat) (x : α) (a : A) (s : S), l[i]? = some x → i < l.length → Rp i a s → ∃ s', Rp (i + 1) (g a x) s' ∧ ∀ r, Ev (fun K k => F K k ((i + 1 : Nat) : Int) s') r → Ev (fun K k => F K k (i : Int) s) r) :
    ∀ a s, Rp 0 a s → ∃ s', Rp l.length (l.foldl g a) s' ∧ Ev (fun K k => F K k 0 s) (fin s') := by
  have key : ∀ n i, i + n = l.length → ∀ a s, Rp i a s → ∃ s', Rp l.length ((l.drop i).foldl g a) s' ∧ Ev (fun K k => F K k (i : Int) s) (fin s') := by
    intro n
    induction n with
    | zero =>
      intro i hi a s h
      have : i = l.length := by omega
      subst this
      exact ⟨s, by rw [List.drop_length]; exact h, hend a s h⟩
    | succ n ih =>
      intro i hi a s h
      have hlt : i < l.length := by omega
      obtain ⟨s1, h1, h2⟩ := hstep i l[i] a s (List.getElem?_eq_getElem hlt) hlt h
      obtain ⟨s2, h3, h4⟩ := ih (i + 1) (by omega) _ s1 h1
      exact ⟨s2, by rw [drop_get hlt, List.foldl_cons]; exact h3, h2 _ h4⟩
  intro a s h
  have := key l.length 0 (by omega) a s h
  simpa using this
theorem rng_get {n i x : Nat} (h : (List.range n)[i]? = some x) : x = i ∧ i < n := by
  rcases Nat.lt_or_ge i n with q | q
  · rw [List.getElem?_range q] at h; exact ⟨(Option.some.inj h).symm, q⟩
  · rw [List.getElem?_eq_none (by simpa using q)] at h; cases h
/-- The state as the reference's loops hold it. -/
def rt (c : VFunc) (st : AState) : Int × Int × (List Block) × (List Int) × (List Bool) × (List Spill) := (c.Params, c.Regs, c.Blocks, UC c, st.sp, st.ss)
theorem rspill_eq {c : VFunc} {w : List Int} {st : AState} {x : Spill} (h0 : 0 ≤ x.Reg) (h1 : x.Reg < st.sp.length) (hl : st.ss.length ≤ 5000) : ref32_allocator_spill (⟨c, st.sp, st.ss, w⟩ : Fullingref32Allocator) x = some ⟨c, (spl st x).sp, (spl st x).ss, w⟩ := by
  unfold ref32_allocator_spill
  rw [isSp_idx h0 h1, Option.bind_some, app_eq (by simp; omega) (by simp; omega)]; rfl
theorem ev_notSp {c : VFunc} (h : Vd c) {a : Fullingref32Allocator} (hl : a.Spilled.length = c.Regs.toNat) {l : List Int} (hr : RS c l) : Ev (fun K _ => ref32_allocator_notSpilled K a l) (unsp a.Spilled l) := by
  have hlen := hr.len h
  have loop : ∀ (m p s : List Int), l = p ++ m → s.length + m.length ≤ 3000 → Ev (fun K k => ref32_allocator_notSpilled_l1 K a l k ((p.length : Int), s)) (s ++ unsp a.Spilled m) := by
    intro m
    induction m with
    | nil =>
      intro p s e _
      refine Ev.step (fun K k => rfl) (Ev.f ?_ ((Ev.some _).cast (by simp [unsp])))
      subst e; simp
    | cons y m ih =>
      intro p s e hs
      have hg : idx l (p.length : Int) = some y := idx_eq (by subst e; simp)
      have hlt : (p.length : Int) < (l.length : Int) := by subst e; simp; omega
      have hw : w64 ((p.length : Int) + 1) = ((p ++ [y]).length : Int) := by
        rw [w64_id (by omega) (by omega)]; simp
      have hy := hr.r y (by subst e; simp)
      simp only [List.length_cons] at hs
      have hsp := isSp_idx (sp := a.Spilled) hy.1 (by omega)
      cases hb : isSp a.Spilled y with
      | true =>
        rw [hb] at hsp
        refine Ev.step (fun K k => rfl) (Ev.t (by simpa using hlt) (Ev.bind (x := s) (Ev.bindO hg (Ev.bindO hsp (Ev.f rfl (Ev.some _)))) ?_))
        simp only [hw]
        refine (ih (p ++ [y]) s (by subst e; simp) (by omega)).cast ?_
        unfold unsp; rw [List.filter_cons, hb]; rfl
      | false =>
        rw [hb] at hsp
        refine Ev.step (fun K k => rfl) (Ev.t (by simpa using hlt) (Ev.bind (x := s ++ [y]) (Ev.bindO hg (Ev.bindO hsp (Ev.t rfl (Ev.bindO hg (Ev.bindO (app_eq (by simp; omega) (by simp; omega)) (Ev.some _)))))) ?_))
        simp only [hw]
        refine (ih (p ++ [y]) (s ++ [y]) (by subst e; simp) (by simp; omega)).cast ?_
        unfold unsp; rw [List.filter_cons, hb]; simp
  unfold ref32_allocator_notSpilled
  exact Ev.bind (Ev.loop (loop l [] [] rfl (by simpa using hlen))) ((Ev.some _).cast (by simp))
theorem fc_at {c : VFunc} (h : Vd c) {r : Int} {b j : Nat} (hb : b < c.Blocks.length) (hj : j < (bk c b).Instrs.length) {R : Unit ⊕ (Unit ⊕ (Int × Int))} (h1 : r ∈ acv (iAt (bk c b) j) (lp (bk c b) (LO c b) (j + 1)) → R = .inr (.inr ((b : Int), (j : Int)))) (h2 : r ∉ acv (iAt (bk c b) j) (lp (bk c b) (LO c b) (j + 1)) → Ev (fun K k => ref32_firstCall_l2 K c r (b : Int) (LPs c b) k ((j + 1 : Nat) : Int)) R) : Ev (fun K k => ref32_firstCall_l2 K c r (b : Int) (LPs c b) k (j : Int)) R := by
  have hlen := h.len hb
  have hv := h.ia hb hj
  have hl := RS.lp (h.iv hb) (h.e hb) (RS.LO h b) (j + 1)
  refine Ev.step (fun K k => rfl) (Ev.bindO (bk_idx hb) (Ev.t (by simpa using hj) (Ev.bindO (bk_idx hb) (Ev.bindO (idx_eq (iAt_get hj)) (Ev.bindO (after_eq hb hj hlen) (Ev.bind (ev_acrossCall h hv hl) (Ev.bind (ev_contains' h (RS.acv hv hl)) ?_)))))))
  refine Ev.cnd (fun hc => ?_) (fun hc => ?_)
  · rw [h1 (by simpa using hc)]
    exact Ev.out (Ev.out (Ev.some _))
  · rw [w64_succ (i := j) (by omega)]
    exact h2 (by simpa using hc)
theorem fc_none {c : VFunc} (h : Vd c) {r : Int} {b : Nat} (hb : b < c.Blocks.length) (hn : ∀ i, i < (bk c b).Instrs.length → r ∉ acv (iAt (bk c b) i) (lp (bk c b) (LO c b) (i + 1))) : Ev (fun K k => ref32_firstCall_l2 K c r (b : Int) (LPs c b) k 0) (.inl ()) :=
  upto (P := fun j => Ev (fun K k => ref32_firstCall_l2 K c r (b : Int) (LPs c b) k (j : Int)) (.inl ())) (n := (bk c b).Instrs.length) (Ev.step (fun K k => rfl) (Ev.bindO (bk_idx hb) (Ev.f (by simp) (Ev.inn ())))) fun j hj ih => fc_at h hb hj (fun q => absurd q (hn j hj)) fun _ => ih
theorem fc_hit {c : VFunc} (h : Vd c) {r : Int} {b i : Nat} (hf : Fst c r b i) : Ev (fun K k => ref32_firstCall_l2 K c r (b : Int) (LPs c b) k 0) (.inr (.inr ((b : Int), (i : Int)))) :=
  upto (P := fun j => Ev (fun K k => ref32_firstCall_l2 K c r (b : Int) (LPs c b) k (j : Int)) (.inr (.inr ((b : Int), (i : Int))))) (n := i) (fc_at h hf.hk hf.hi (fun _ => rfl) fun q => absurd hf.m q) fun j hj ih => fc_at h hf.hk (by have := hf.hi; omega) (fun q => absurd q (hf.e b j hf.hk (by have := hf.hi; omega) (.inr ⟨rfl, hj⟩))) fun _ => ih
theorem ev_firstCall {c : VFunc} (h : Vd c) {r : Int} {k i : Nat} (hf : Fst c r k i) : Ev (fun K _ => ref32_firstCall K c r) ((k : Int), (i : Int)) := by
  have hb1 := h.h.b1
  have l1 : Ev (fun K n => ref32_firstCall_l1 K c r n ((0 : Nat) : Int)) (.inr ((k : Int), (i : Int))) := by
    have hk := hf.hk
    refine upto (P := fun b => Ev (fun K n => ref32_firstCall_l1 K c r n (b : Int)) (.inr ((k : Int), (i : Int)))) (n := k) ?_ fun b hb ih => ?_
    · exact Ev.step (fun K n => rfl) (Ev.t (by simpa using hk) (Ev.bind (ev_rpoints h hk) (Ev.sqr (Ev.loop (fc_hit h hf)))))
    · refine Ev.step (fun K n => rfl) (Ev.t (by simp; omega) (Ev.bind (ev_rpoints h (by omega)) (Ev.sql (Ev.loop (fc_none h (by omega) fun i' hi' => hf.e b i' (by omega) hi' (.inl hb))) ?_)))
      rw [w64_succ (i := b) (by omega)]; exact ih
  unfold ref32_firstCall
  exact Ev.sqr (Ev.loop l1)
theorem ev_spillCalls {c : VFunc} (h : Vd c) : Ev (fun K _ => ref32_allocator_spillCalls K (⟨c, List.replicate c.Regs.toNat false, [], UC c⟩ : Fullingref32Allocator)) ⟨c, (ph1 c).sp, (ph1 c).ss, UC c⟩ := by
  obtain ⟨e1, hrs⟩ := ev_racross h
  have hlen := hrs.len h
  obtain ⟨s', ⟨rfl, _, _⟩, el⟩ := ev_foldi (AC c) (fun K k i s => ref32_allocator_spillCalls_l1 K (AC c) k (i, s)) id (sp1 c) (fun n st s => s = rt c st ∧ st.sp.length = c.Regs.toNat ∧ st.ss.length ≤ n)
    (fun a s hs => Ev.step (fun K k => rfl) (Ev.f (by simp) (Ev.some _)))
    (fun i x st s hx hi hs => by
      obtain ⟨rfl, hl, hn⟩ := hs
      have hm := List.mem_of_getElem? hx
      have hxr := hrs.r x hm
      obtain ⟨k, j, hf⟩ := fst_ex hm
      have e2 := rspill_eq (c := c) (w := UC c) (st := st) (x := ⟨x, 1, (k : Int), (j : Int), []⟩) hxr.1 (by show x < _; omega) (by omega)
      refine ⟨rt c (sp1 c st x), ⟨rfl, by simp [sp1, spl, hl], by simp [sp1, spl]; omega⟩, fun r hr => Ev.step (fun K k => rfl) (Ev.t (by simpa using hi) (Ev.bindO (idx_eq hx) (Ev.bind (ev_firstCall h hf) (Ev.bindO (idx_eq hx) (Ev.bindO e2 ?_)))))⟩
      have e3 : sp1 c st x = spl st ⟨x, 1, (k : Int), (j : Int), []⟩ := by unfold sp1; rw [fcl_eq hf]
      rw [e3] at hr
      rw [w64_succ (i := i) (by omega)]
      exact hr) ⟨List.replicate c.Regs.toNat false, []⟩ (rt c ⟨List.replicate c.Regs.toNat false, []⟩) ⟨rfl, by simp, by simp⟩
  unfold ref32_allocator_spillCalls
  exact Ev.bind e1 (Ev.bind (Ev.loop el) (Ev.some _))
theorem wt_idx {c : VFunc} (h : Vd c) {n : Int} (h0 : 0 ≤ n) (h1 : n < c.Regs) : idx (UC c) n = some (wt (UC c) n) := by
  have hu : (UC c).length = c.Regs.toNat := by
    unfold UC
    exact foldl_inv (P := fun z : List Int => z.length = c.Regs.toNat) (fun a x _ h => by rw [ucB_len]; exact h) (by simp)
  exact inc_idx h0 (by omega)
theorem prs_si {c : VFunc} (h : Vd c) {w : List Int} {k i n : Nat} {l : List Int} (hl : RS c l) {st : AState} (hs : SI c st) (hn : n = 0 ∨ n + 5 ≤ (unsp st.sp l).length) : SI c (prs w k i n (unsp st.sp l) st) :=
  (prs_inv (P := fun _ => True) hl (fun _ _ _ _ _ _ _ _ _ _ _ => trivial) n _ st (hl.unsp _).s (fun x hx => mem_unsp.1 hx) hn hs trivial).1
theorem bst_step {w : List Int} {y : Int} {t : List Int} : bst w (y :: t) = t.foldl (fun b n => if wt w n ≤ wt w b then n else b) y := by
  unfold bst
  rw [List.foldl_cons]
  congr 1
  show (if wt w y ≤ wt w y then y else y) = y
  split <;> rfl
theorem rpr_l4 {c : VFunc} (h : Vd c) {hh : List Int} (hr : RS c hh) {y : Int} {t : List Int} (e : hh = y :: t) {s : (List Int) × Int × Int × (List Block) × (List Int) × (List Bool) × (List Spill)} (hs1 : s.1 = hh) (hs2 : s.2.2.2.2.1 = UC c) : Ev (fun K k => ref32_allocator_spillPressure_l4 K s k (y, 1)) (bst (UC c) hh) := by
  have hlen := hr.len h
  have key : ∀ n j b, j + n = hh.length → 0 ≤ b → b < c.Regs → Ev (fun K k => ref32_allocator_spillPressure_l4 K s k (b, (j : Int))) ((hh.drop j).foldl (fun b n => if wt (UC c) n ≤ wt (UC c) b then n else b) b) := by
    intro n
    induction n with
    | zero =>
      intro j b hj hb0 hb1
      have : j = hh.length := by omega
      subst this
      refine Ev.step (fun K k => rfl) (Ev.f (by rw [hs1]; simp) ((Ev.some _).cast ?_))
      rw [List.drop_length]; rfl
    | succ n ih =>
      intro j b hj hb0 hb1
      have hlt : j < hh.length := by omega
      have hg : idx s.1 (j : Int) = some hh[j] := by rw [hs1]; exact idx_get hlt
      have hxr := hr.r hh[j] (List.getElem_mem hlt)
      rw [drop_get hlt, List.foldl_cons]
      have w1 : idx s.2.2.2.2.1 hh[j] = some (wt (UC c) hh[j]) := by rw [hs2]; exact wt_idx h hxr.1 hxr.2
      have w2 : idx s.2.2.2.2.1 b = some (wt (UC c) b) := by rw [hs2]; exact wt_idx h hb0 hb1
      refine Ev.step (fun K k => rfl) (Ev.t (by rw [hs1]; simpa using hlt) (Ev.bind (x := if wt (UC c) hh[j] ≤ wt (UC c) b then hh[j] else b) (Ev.bindO hg (Ev.bindO w1 (Ev.bindO w2 ?_))) ?_))
      · refine Ev.cnd (fun hc => Ev.bindO hg ((Ev.some _).cast ?_)) (fun hc => (Ev.some _).cast ?_)
        · rw [if_pos (of_decide_eq_true hc)]
        · rw [if_neg (of_decide_eq_false hc)]
      · simp only [w64_succ (i := j) (by omega)]
        refine ih (j + 1) _ (by omega) ?_ ?_
        · split; exact hxr.1; exact hb0
        · split; exact hxr.2; exact hb1
  have hy := hr.r y (by rw [e]; simp)
  have := key (hh.length - 1) 1 y (by rw [e, List.length_cons]; omega) hy.1 hy.2
  refine Ev.cast this ?_
  rw [e, bst_step]; rfl
theorem rpr_l3 {c : VFunc} (h : Vd c) {k i : Nat} (hk : k < c.Blocks.length) (hi : i ≤ (bk c k).Instrs.length) {s6 s16 : Int × Int × Int × (List Block) × (List Int) × (List Bool) × (List Spill)} (h6 : s6.1 = (k : Int)) (h16 : s16.1 = (i : Int)) : ∀ (n : Nat) (st : AState), SI c st → (n = (unsp st.sp (lp (bk c k) (LO c k) i)).length - 5) →
    Ev (fun K m => ref32_allocator_spillPressure_l3 K s6 (LPs c k) s16 m (unsp st.sp (lp (bk c k) (LO c k) i), rt c st)) (rt c (prs (UC c) k i n (unsp st.sp (lp (bk c k) (LO c k) i)) st)) := by
  have hl := RS.lp (h.iv hk) (h.e hk) (RS.LO h k) i
  intro n
  induction n with
  | zero =>
    intro st hs hn
    exact Ev.step (fun K k => rfl) (Ev.f (by simp; omega) (Ev.some _))
  | succ n ih =>
    intro st hs hn
    have hsl := hs.l
    have hss := hs.len h
    have hr1 := h.h.r1
    have hu := hl.unsp st.sp
    have hulen := hu.len h
    generalize hh : unsp st.sp (lp (bk c k) (LO c k) i) = H at hn hu hulen
    obtain ⟨y, t, e⟩ : ∃ y t, H = y :: t := by
      cases H with
      | nil => simp at hn
      | cons y t => exact ⟨y, t, rfl⟩
    have hb : bst (UC c) H ∈ H := bst_mem (by rw [e]; simp)
    have hbr := hu.r _ hb
    have hbu : isSp st.sp (bst (UC c) H) = false := (mem_unsp.1 (hh.symm ▸ hb : bst (UC c) H ∈ unsp st.sp (lp (bk c k) (LO c k) i))).2
    have hmlen := mns_one_len hu.s hb
    have e1 : idx H 0 = some y := by rw [e]; exact idx_eq (i := 0) rfl
    have e3 := rspill_eq (c := c) (w := UC c) (st := st) (x := ⟨bst (UC c) H, 2, (k : Int), (i : Int), mns H [bst (UC c) H]⟩) hbr.1 (by show bst (UC c) H < _; omega) (by omega)
    have hs' := hs.spl (x := ⟨bst (UC c) H, 2, (k : Int), (i : Int), mns H [bst (UC c) H]⟩) hbr.1 hbr.2 hbu
    have e4 := unsp_set hsl hl hbr.1 hbr.2
    rw [hh] at e4
    have e5 : idx (LPs c k) (i : Int) = some (lp (bk c k) (LO c k) i) := idx_eq (by unfold LPs lps; rw [List.getElem?_map, List.getElem?_range (by omega)]; rfl)
    refine Ev.step (fun K k => rfl) (Ev.t (by simp; omega) (Ev.bindO e1 (Ev.bind (Ev.loop (rpr_l4 h hu e rfl rfl)) (Ev.bind (ev_minus (a := H) (b := [bst (UC c) H]) (by unfold Sm; omega) (by simp [Sm])) (Ev.bindO (x := ⟨c, (spl st ⟨bst (UC c) H, 2, (k : Int), (i : Int), mns H [bst (UC c) H]⟩).sp, (spl st ⟨bst (UC c) H, 2, (k : Int), (i : Int), mns H [bst (UC c) H]⟩).ss, UC c⟩) ?_ ?_)))))
    · rw [h6, h16]; exact e3
    · rw [h16]
      refine Ev.bindO e5 (Ev.bind (ev_notSp h hs'.l hl) ?_)
      have := ih (spl st ⟨bst (UC c) H, 2, (k : Int), (i : Int), mns H [bst (UC c) H]⟩) hs' (by
        show n = (unsp (st.sp.set (bst (UC c) H).toNat true) _).length - 5
        rw [e4]; omega)
      have e6 : unsp (spl st ⟨bst (UC c) H, 2, (k : Int), (i : Int), mns H [bst (UC c) H]⟩).sp (lp (bk c k) (LO c k) i) = mns H [bst (UC c) H] := e4
      rw [e6] at this ⊢
      exact this
theorem rpr_l2 {c : VFunc} (h : Vd c) {k : Nat} (hk : k < c.Blocks.length) {s6 : Int × Int × Int × (List Block) × (List Int) × (List Bool) × (List Spill)} (h6 : s6.1 = (k : Int)) {st : AState} (hs : SI c st) : Ev (fun K m => ref32_allocator_spillPressure_l2 K s6 (LPs c k) m (0, rt c st)) (rt c (ph2B c (UC c) st k)) ∧ SI c (ph2B c (UC c) st k) := by
  have hlen := h.len hk
  have hL : (LPs c k).length = (bk c k).Instrs.length + 1 := by simp [LPs, lps]
  obtain ⟨s', ⟨rfl, hs'⟩, el⟩ := ev_foldi (List.range ((bk c k).Instrs.length + 1)) (fun K m i s => ref32_allocator_spillPressure_l2 K s6 (LPs c k) m (i, s)) id (ph2P c (UC c) k) (fun n st s => s = rt c st ∧ SI c st)
    (fun a s hs => Ev.step (fun K k => rfl) (Ev.f (by simp [hL]) (Ev.some _)))
    (fun j i st s hx hj hs => by
      obtain ⟨rfl, hj⟩ := rng_get hx
      obtain ⟨rfl, hs⟩ := hs
      have hl := RS.lp (h.iv hk) (h.e hk) (RS.LO h k) i
      have e5 : idx (LPs c k) (i : Int) = some (lp (bk c k) (LO c k) i) := idx_eq (by unfold LPs lps; rw [List.getElem?_map, List.getElem?_range (by omega)]; rfl)
      refine ⟨rt c (ph2P c (UC c) k st i), ⟨rfl, prs_si h hl hs (by omega)⟩, fun r hr => Ev.step (fun K k => rfl) (Ev.t (by simp [hL]; omega) (Ev.bindO e5 (Ev.bind (ev_notSp h hs.l hl) (Ev.bind (Ev.loop (rpr_l3 h hk (by omega) h6 (s16 := ((i : Int), rt c st)) rfl _ st hs rfl)) ?_))))⟩
      rw [w64_succ (i := i) (by omega)]
      exact hr) st (rt c st) ⟨rfl, hs⟩
  exact ⟨el, hs'⟩
theorem ev_spillPressure {c : VFunc} (h : Vd c) {st : AState} (hs : SI c st) : Ev (fun K _ => ref32_allocator_spillPressure K (⟨c, st.sp, st.ss, UC c⟩ : Fullingref32Allocator)) ⟨c, (ph2 c st).sp, (ph2 c st).ss, UC c⟩ := by
  have hb1 := h.h.b1
  obtain ⟨s', ⟨rfl, hs'⟩, el⟩ := ev_foldi (List.range c.Blocks.length) (fun K m i s => ref32_allocator_spillPressure_l1 K m (i, s)) id (ph2B c (UC c)) (fun n st s => s = rt c st ∧ SI c st)
    (fun a s hs => by obtain ⟨rfl, _⟩ := hs; exact Ev.step (fun K k => rfl) (Ev.f (by simp [rt]) (Ev.some _)))
    (fun j i st s hx hj hs => by
      obtain ⟨rfl, hj⟩ := rng_get hx
      obtain ⟨rfl, hs⟩ := hs
      obtain ⟨e1, hs'⟩ := rpr_l2 h hj (s6 := ((i : Int), rt c st)) rfl hs
      refine ⟨rt c (ph2B c (UC c) st i), ⟨rfl, hs'⟩, fun r hr => Ev.step (fun K k => rfl) (Ev.t (by simp [rt]; omega) (Ev.bind (ev_rpoints h hj) (Ev.bind (Ev.loop e1) ?_)))⟩
      rw [w64_succ (i := i) (by omega)]
      exact hr) st (rt c st) ⟨rfl, hs⟩
  unfold ref32_allocator_spillPressure
  exact Ev.bind (Ev.loop el) (Ev.some _)
end Go.Proofs.YtocfnpnnbmicmaaDoor.Tc
end
section
set_option linter.unusedVariables false
set_option linter.unusedSimpArgs false
namespace Go.Proofs.YtocfnpnnbmicmaaDoor.Tc
open Go
theorem frM_some {l : List Int} {sp : List Bool} {loc : List Location} {r m : Nat} (hm : m < 5) (h1 : ∀ j : Nat, j < m → 0 ≤ own l sp loc r j) (h2 : own l sp loc r m < 0) : frM l sp loc r = some m := by
  unfold frM
  rw [List.find?_range_eq_some]
  exact ⟨by simpa using h2, List.mem_range.2 hm, fun j hj => by have := h1 j hj; simp; omega⟩
theorem frM_none {l : List Int} {sp : List Bool} {loc : List Location} {r : Nat} (h1 : ∀ j : Nat, j < 5 → 0 ≤ own l sp loc r j) : frM l sp loc r = none := by
  unfold frM
  rw [List.find?_eq_none]
  intro j hj
  have := h1 j (List.mem_range.1 hj)
  simp; omega
structure HAD (c : VFunc) (had sp : List Bool) (r : Nat) : Prop where
  l : had.length = c.Regs.toNat
  b : ∀ y : Int, 0 ≤ y → y < c.Regs → isSp had y = (decide (y < (r : Int)) && !(isSp sp y))
abbrev RS9 := Int × (List Bool) × (List Location) × Int × Int × (List Block) × (List Int) × (List Bool) × (List Spill)
theorem ral_l3 {c : VFunc} (h : Vd c) {r : Nat} (hr : r < c.Regs.toNat) {sp : List Bool} {loc : List Location} {s37 : RS9} (h1 : s37.1 = (r : Int)) (h2 : HAD c s37.2.1 sp r) (h3 : s37.2.2.1 = loc) (hl : loc.length = c.Regs.toNat) {m : Int} {s58 : Int × List Int} (h58 : s58.1 = m) : Ev (fun K k => ref32_Allocate_l3 K (IFs c) s37 s58 k (-1, ((IF c r).length : Int) - 1)) (own (IF c r) sp loc r m) := by
  have g := gr_IF h
  have hlen := (g.s r).len h
  have hx : idx (IFs c) s37.1 = some (IF c r) := by rw [h1]; exact idx_eq (IFs_get hr)
  have key : ∀ j, j ≤ (IF c r).length → Ev (fun K k => ref32_Allocate_l3 K (IFs c) s37 s58 k ((((IF c r).drop j).find? (owP sp loc r m)).getD (-1), (j : Int) - 1)) (own (IF c r) sp loc r m) := by
    intro j
    induction j with
    | zero => intro _; exact Ev.step (fun K k => rfl) (Ev.f (by simp) ((Ev.some _).cast (by rw [List.drop_zero]; rfl)))
    | succ j ih =>
      intro hj
      have hlt : j < (IF c r).length := hj
      have hidx : ((j + 1 : Nat) : Int) - 1 = (j : Int) := by omega
      have hw : w64 ((j : Int) - 1) = (j : Int) - 1 := w64_id (by omega) (by omega)
      have hy := (g.s r).r _ (List.getElem_mem hlt)
      have e1 := idx_get hlt
      have e2 := isSp_idx (sp := s37.2.1) hy.1 (by rw [h2.l]; omega)
      have e3 := locL_idx (loc := s37.2.2.1) hy.1 (by rw [h3, hl]; omega)
      have hh := h2.b _ hy.1 hy.2
      refine Ev.step (fun K k => rfl) (Ev.t (by simp) ?_)
      simp only [hidx, hw]
      refine Ev.bind (x := (((IF c r).drop j).find? (owP sp loc r m)).getD (-1)) (Ev.bindO hx (Ev.bindO e1 (Ev.bindO e2 (Ev.bind (x := owP sp loc r m (IF c r)[j]) ?_ ?_)))) (ih (by omega))
      · unfold owP
        rw [← hh]
        cases hc : isSp s37.2.1 (IF c r)[j] with
        | false => exact Ev.f rfl (Ev.some _)
        | true => exact Ev.t rfl (Ev.bindO e3 ((Ev.some _).cast (by rw [h58, h3]; rfl)))
      · rw [drop_get hlt, List.find?_cons]
        cases owP sp loc r m (IF c r)[j] with
        | true => exact Ev.t rfl (Ev.some _)
        | false => exact Ev.f rfl (Ev.some _)
  have := key (IF c r).length (Nat.le_refl _)
  rw [List.drop_length] at this
  exact this
/-- What the search for a color comes to. -/
noncomputable def colR (c : VFunc) (sp had : List Bool) (loc : List Location) (r : Nat) : (List Int) × (List Bool) × (List Location) :=
  match frM (IF c r) sp loc r with
  | some m => ((List.range m).map (fun m : Nat => own (IF c r) sp loc r m), had.set r true, loc.set r ⟨false, (m : Int)⟩)
  | none => (owns (IF c r) sp loc r, had, loc)
theorem ral_l2 {c : VFunc} (h : Vd c) {r : Nat} (hr : r < c.Regs.toNat) {sp had : List Bool} {loc : List Location} {s37 : RS9} (h1 : s37.1 = (r : Int)) (e2 : s37.2.1 = had) (h2 : HAD c had sp r) (h3 : s37.2.2.1 = loc) (hl : loc.length = c.Regs.toNat) : Ev (fun K k => ref32_Allocate_l2 K (IFs c) s37 k (0, [])) (colR c sp had loc r) := by
  have hlen := ((gr_IF h).s r).len h
  have hx : idx (IFs c) s37.1 = some (IF c r) := by rw [h1]; exact idx_eq (IFs_get hr)
  have hw : w64 (((IF c r).length : Int) - 1) = ((IF c r).length : Int) - 1 := w64_id (by omega) (by omega)
  have i2 := isSp_idx (sp := s37.2.1) (r := s37.1) (by omega) (by rw [e2, h2.l]; omega)
  have i3 := locL_idx (loc := s37.2.2.1) (r := s37.1) (by omega) (by rw [h3, hl]; omega)
  have key : ∀ n m : Nat, m + n = 5 → (∀ j : Nat, j < m → 0 ≤ own (IF c r) sp loc r j) → Ev (fun K k => ref32_Allocate_l2 K (IFs c) s37 k ((m : Int), (List.range m).map (fun m : Nat => own (IF c r) sp loc r m))) (colR c sp had loc r) := by
    intro n
    induction n with
    | zero =>
      intro m hm hj
      have : m = 5 := by omega
      subst this
      refine Ev.step (fun K k => rfl) (Ev.f rfl ((Ev.some _).cast ?_))
      unfold colR
      rw [frM_none hj]
      show (_, s37.2.1, s37.2.2.1) = _
      rw [e2, h3]; rfl
    | succ n ih =>
      intro m hm hj
      have e3 := ral_l3 h hr h1 (by rw [e2]; exact h2) h3 hl (m := (m : Int)) (s58 := ((m : Int), (List.range m).map (fun m : Nat => own (IF c r) sp loc r m))) rfl
      refine Ev.step (fun K k => rfl) (Ev.t (by simp; omega) (Ev.bindO hx ?_))
      simp only [hw]
      refine Ev.bind (Ev.loop e3) (Ev.cnd (fun hc => ?_) (fun hc => ?_))
      · refine Ev.bindO i3 (Ev.bindO i2 ((Ev.some _).cast ?_))
        unfold colR
        rw [frM_some (by omega) hj (of_decide_eq_true hc)]
        show (_, s37.2.1.set s37.1.toNat true, s37.2.2.1.set s37.1.toNat _) = _
        rw [e2, h3, h1, Int.toNat_natCast]
      · refine Ev.bindO (app_eq (by simp; omega) (by simp; omega)) ?_
        have := ih (m + 1) (by omega) (fun j hj2 => by
          by_cases q : j = m
          · subst q; have := of_decide_eq_false hc; omega
          · exact hj j (by omega))
        rw [w64_succ (i := m) (by omega)]
        rw [List.range_succ, List.map_append] at this
        exact this
  exact key 5 0 (by omega) (fun j hj => by omega)
theorem isSp_setN {sp : List Bool} {b : Bool} {x : Nat} (hx : x < sp.length) {r : Int} (hr : 0 ≤ r) : isSp (sp.set x b) r = if r = (x : Int) then b else isSp sp r := by
  unfold isSp
  rw [List.getD_eq_getElem?_getD, List.getD_eq_getElem?_getD]
  by_cases e : r = (x : Int)
  · subst e; rw [if_pos rfl, Int.toNat_natCast, List.getElem?_set_self hx]; rfl
  · rw [if_neg e, List.getElem?_set_ne (by omega)]
theorem ral_l1 {c : VFunc} (h : Vd c) {q0 : AState × List Location} (h0 : C3 c 0 q0) : ∃ had, Ev (fun K k => ref32_Allocate_l1 K c (IFs c) k (0, List.replicate c.Regs.toNat false, q0.2, rt c q0.1)) (had, ((List.range c.Regs.toNat).foldl (col c) q0).2, rt c ((List.range c.Regs.toNat).foldl (col c) q0).1) := by
  have hr1 := h.h.r1
  have hr0 := h.h.r0
  obtain ⟨s', ⟨had, rfl, _⟩, el⟩ := ev_foldi (List.range c.Regs.toNat) (fun K k i s => ref32_Allocate_l1 K c (IFs c) k (i, s)) id (col c) (fun r q s => ∃ had, s = (had, q.2, rt c q.1) ∧ HAD c had q.1.sp r ∧ C3 c r q)
    (fun a s hs => Ev.step (fun K k => rfl) (Ev.f (by simp; omega) (Ev.some _)))
    (fun j r q s hx hj hs => by
      obtain ⟨rfl, hj⟩ := rng_get hx
      obtain ⟨had, rfl, hh, h3⟩ := hs
      have hnext := h3.step h hj
      have hl := h3.l
      have hsl := h3.s.l
      have hss := h3.s.len h
      have i1 := isSp_idx (sp := q.1.sp) (r := (r : Int)) (by omega) (by omega)
      have hhr := hh.b (r : Int) (by omega) (by omega)
      have hhr : isSp had (r : Int) = false := by rw [hhr]; simp
      have i2 := isSp_idx (sp := had) (r := (r : Int)) (by omega) (by rw [hh.l]; omega)
      have key : ∃ had', HAD c had' (col c q r).1.sp (r + 1) ∧ ∀ K0 : Unit, Ev (fun (K k : Nat) => Option.bind (idx q.1.sp (r : Int)) (fun y45 => (cnd y45 (some (had, q.2, rt c q.1)) (Option.bind (Option.bind (ref32_Allocate_l2 K (IFs c) ((r : Int), had, q.2, rt c q.1) K (0, ([] : List Int))) (fun s53 => (some (s53.1, s53.2.1, s53.2.2)))) (fun s48 => (Option.bind (idx s48.2.1 (r : Int)) (fun y97 => (cnd (!y97) (Option.bind (ref32_allocator_spill (⟨c, q.1.sp, q.1.ss, UC c⟩ : Fullingref32Allocator) (⟨(r : Int), 3, 0, 0, s48.1⟩ : Spill)) (fun r100 => (some (s48.2.1, s48.2.2, r100.C.Params, r100.C.Regs, r100.C.Blocks, r100.Weight, r100.Spilled, r100.Spills)))) (some (s48.2.1, s48.2.2, rt c q.1)))))))))) (had', (col c q r).2, rt c (col c q r).1) := by
        unfold col
        cases hsp : isSp q.1.sp (r : Int) with
        | true =>
          rw [if_pos rfl]
          refine ⟨had, ⟨hh.l, fun y hy0 hy1 => ?_⟩, fun _ => Ev.bindO i1 (Ev.t hsp (Ev.some _))⟩
          rw [hh.b y hy0 hy1]
          by_cases e : y = (r : Int)
          · subst e; rw [hsp]; simp
          · congr 1; rw [Bool.eq_iff_iff]; simp; omega
        | false =>
          rw [if_neg (by simp)]
          have e2 := ral_l2 h hj (s37 := ((r : Int), had, q.2, rt c q.1)) rfl rfl hh rfl hl
          cases hf : frM (IF c r) q.1.sp q.2 r with
          | some m =>
            have e3 : colR c q.1.sp had q.2 r = ((List.range m).map (fun m : Nat => own (IF c r) q.1.sp q.2 r m), had.set r true, q.2.set r ⟨false, (m : Int)⟩) := by unfold colR; rw [hf]
            rw [e3] at e2
            have i4 := isSp_idx (sp := had.set r true) (r := (r : Int)) (by omega) (by simp [hh.l]; omega)
            rw [isSp_setN (by rw [hh.l]; exact hj) (by omega), if_pos rfl] at i4
            refine ⟨had.set r true, ⟨by simp [hh.l], fun y hy0 hy1 => ?_⟩, fun _ => Ev.bindO i1 (Ev.f hsp (Ev.bind (Ev.bind (Ev.loop e2) (Ev.some _)) (Ev.bindO i4 (Ev.f rfl (Ev.some _)))))⟩
            rw [isSp_setN (by rw [hh.l]; exact hj) hy0]
            show _ = (decide (y < ((r + 1 : Nat) : Int)) && !(isSp q.1.sp y))
            by_cases e : y = (r : Int)
            · subst e; rw [if_pos rfl, hsp]; simp; omega
            · rw [if_neg e, hh.b y hy0 hy1]; congr 1; rw [Bool.eq_iff_iff]; simp; omega
          | none =>
            have e3 : colR c q.1.sp had q.2 r = (owns (IF c r) q.1.sp q.2 r, had, q.2) := by unfold colR; rw [hf]
            rw [e3] at e2
            rw [hhr] at i2
            have e4 := rspill_eq (c := c) (w := UC c) (st := q.1) (x := ⟨(r : Int), 3, 0, 0, owns (IF c r) q.1.sp q.2 r⟩) (show (0 : Int) ≤ r by omega) (show (r : Int) < _ by omega) (by omega)
            refine ⟨had, ⟨hh.l, fun y hy0 hy1 => ?_⟩, fun _ => Ev.bindO i1 (Ev.f hsp (Ev.bind (Ev.bind (Ev.loop e2) (Ev.some _)) (Ev.bindO i2 (Ev.t rfl (Ev.bindO e4 (Ev.some _))))))⟩
            show isSp had y = (decide (y < ((r + 1 : Nat) : Int)) && !(isSp (q.1.sp.set (r : Int).toNat true) y))
            rw [isSp_set (by omega) (by omega) hy0, hh.b y hy0 hy1]
            by_cases e : y = (r : Int)
            · subst e; simp
            · have e5 : (y == (r : Int)) = false := by simpa using e
              rw [e5, Bool.or_false]; congr 1; rw [Bool.eq_iff_iff]; simp; omega
      obtain ⟨had', hh', ek⟩ := key
      refine ⟨(had', (col c q r).2, rt c (col c q r).1), ⟨had', rfl, hh', hnext⟩, fun r' hr' => Ev.step (fun K k => rfl) (Ev.t (by simp; omega) (Ev.bind (ek ()) ?_))⟩
      rw [w64_succ (i := r) (by omega)]
      exact hr') q0 (List.replicate c.Regs.toNat false, q0.2, rt c q0.1) ⟨_, rfl, ⟨by simp, fun y hy0 hy1 => by
        unfold isSp
        rw [List.getD_eq_getElem?_getD, List.getElem?_replicate]
        have : decide (y < ((0 : Nat) : Int)) = false := by simp; omega
        rw [this]
        split <;> rfl⟩, h0⟩
  exact ⟨had, el⟩
theorem ral_l4 {c : VFunc} (h : Vd c) {s32 : (List Bool) × (List Location) × Int × Int × (List Block) × (List Int) × (List Bool) × (List Spill)} (hs : s32.2.2.2.2.2.2.1 = (fin3 c).1.sp) : Ev (fun K k => ref32_Allocate_l4 K c s32 k (0, c.Params, (fin3 c).2)) ((fin4 c).2, (fin4 c).1) := by
  have hr1 := h.h.r1
  have hr0 := h.h.r0
  have hp0 := h.h.p0
  have hp1 := h.h.p1
  have h3 := c3_fin h
  have hsl := h3.s.l
  obtain ⟨s', ⟨rfl, _⟩, el⟩ := ev_foldi (List.range c.Regs.toNat) (fun K k i s => ref32_Allocate_l4 K c s32 k (i, s)) id (slo (fin3 c).1.sp) (fun r q s => s = (q.2, q.1) ∧ C4 c (fin3 c).1.sp (fin3 c).2 r q)
    (fun a s hs => Ev.step (fun K k => rfl) (Ev.f (by simp; omega) (Ev.some _)))
    (fun j r q s hx hj hs' => by
      obtain ⟨rfl, hj⟩ := rng_get hx
      obtain ⟨rfl, h4⟩ := hs'
      have hnext := h4.step hj
      have hl := h4.l
      have hb := h4.b
      have i1 := isSp_idx (sp := (fin3 c).1.sp) (r := (r : Int)) (by omega) (by omega)
      rw [← hs] at i1
      have i3 := locL_idx (loc := q.1) (r := (r : Int)) (by omega) (by omega)
      have hw : w64 (q.2 + 1) = q.2 + 1 := w64_id (by omega) (by omega)
      refine ⟨((slo (fin3 c).1.sp q r).2, (slo (fin3 c).1.sp q r).1), ⟨rfl, hnext⟩, fun r' hr' => Ev.step (fun K k => rfl) (Ev.t (by simp; omega) (Ev.bind (x := ((slo (fin3 c).1.sp q r).2, (slo (fin3 c).1.sp q r).1)) (Ev.bindO i1 ?_) ?_))⟩
      · rw [hs]
        unfold slo
        cases isSp (fin3 c).1.sp (r : Int) with
        | true => exact Ev.t rfl (Ev.bindO i3 ((Ev.some _).cast (by rw [hw, Int.toNat_natCast]; rfl)))
        | false => exact Ev.f rfl (Ev.some _)
      · rw [w64_succ (i := r) (by omega)]
        exact hr') ((fin3 c).2, c.Params) (c.Params, (fin3 c).2) ⟨rfl, ⟨h3.l, fun y hy => rfl, fun y hy => by omega, fun y z hy => by omega, by show _ ≤ c.Params ∧ c.Params ≤ _; omega⟩⟩
  exact el
theorem c3_start {c : VFunc} (h : Vd c) : C3 c 0 (ph2 c (ph1 c), loc0 c) := by
  obtain ⟨h1, h2, h3⟩ := ph2_ok h
  exact ⟨h1, by simp [loc0], h2, fun y hy => by omega, fun y z hy => by omega, h3 _ _ _⟩
theorem ev_ralloc {c : VFunc} (h : Vd c) : Ev (fun K _ => ref32_Allocate K c) (AL c) := by
  have hb0 := h.h.b0
  unfold ref32_Allocate
  refine Ev.bind (ev_rvalid h.sm) (Ev.f (by rw [h.v]; rfl) (Ev.bind (ev_rblocks h) (Ev.bindO (idx_eq (i := 0) (LIs_get (by omega))) ?_)))
  refine Ev.cnd (fun hc => (Ev.some _).cast ?_) (fun hc => ?_)
  · unfold AL; rw [if_pos (by have := of_decide_eq_true hc; omega)]
  · have hn : ¬ (LI c 0).length > 0 := by have := of_decide_eq_false hc; omega
    have e1 := ev_spillCalls h
    have e2 := ev_spillPressure h (ph1_ok h).1
    obtain ⟨had, e3⟩ := ral_l1 h (c3_start h)
    have e4 := ral_l4 h (s32 := (had, (fin3 c).2, rt c (fin3 c).1)) rfl
    refine Ev.bindO (mkR h (by omega) _) (Ev.bind (ev_ruc h) (Ev.bind e1 (Ev.bind e2 (Ev.bind (ev_rint h) (Ev.bindO (mkR h (by omega) _) (Ev.bindO (mkR h (by omega) _) (Ev.bind (Ev.loop e3) (Ev.bind (Ev.loop e4) ?_))))))))
    unfold AL
    rw [if_neg hn]
    refine Ev.cnd (fun hc => (Ev.some _).cast ?_) (fun hc => (Ev.some _).cast ?_)
    · rw [if_pos (of_decide_eq_true hc)]
    · rw [if_neg (of_decide_eq_false hc)]; rfl
end Go.Proofs.YtocfnpnnbmicmaaDoor.Tc
end
section
set_option linter.unusedVariables false
set_option linter.unusedSimpArgs false
namespace Go.Proofs.YtocfnpnnbmicmaaDoor.Tc
open Go
theorem al_slots {c : VFunc} (h : Vd c) : c.Params ≤ (fin4 c).2 ∧ (fin4 c).2 ≤ c.Params + c.Regs := (alc h).s
theorem al_ok {c : VFunc} (h : Vd c) (h0 : LI c 0 = []) (hs : c.Params + c.Regs ≤ 3000) : AL c = (ALa c, 0) := by
  have := al_slots h
  unfold AL
  rw [h0, if_neg (by simp), if_neg (by omega)]
theorem VF.al {p : Int} {c : VFunc} (h : VF p c) : AL c = (ALa c, 0) := al_ok h.vd h.li0 (by have := h.hp; have := h.hr; have := h.p2; omega)
theorem row_sb {c : VFunc} {a : Allocation} {r : Nat} (hr : r < c.Regs.toNat) {y : Int} (hy : y ∈ IF c r) (hs : sameL (locA a (r : Int)) (locA a y) = true) : SB c a = false := by
  have : (List.range c.Regs.toNat).all (rowT c a) = false := by
    rw [Bool.eq_false_iff]
    intro q
    have := List.all_eq_true.1 (List.all_eq_true.1 q r (List.mem_range.2 hr)) y hy
    rw [hs] at this; cases this
  unfold SB
  rw [this]; simp
theorem ev_check {c : VFunc} {a : Allocation} {b d : Bool} (h1 : Ev (fun K _ => alloccheck_Sound K c a) b) (h2 : b = true → Ev (fun K _ => alloccheck_Justified K c a) d) : Ev (fun K _ => alloccheck_Check K c a) (b && d) := by
  unfold alloccheck_Check
  refine Ev.bind h1 (Ev.bind (x := b && d) ?_ (Ev.some _))
  cases b with
  | false => exact Ev.f rfl (Ev.some _)
  | true => exact Ev.t rfl (Ev.bind (h2 rfl) (Ev.some _))
end Go.Proofs.YtocfnpnnbmicmaaDoor.Tc
end
section
set_option maxRecDepth 100000
namespace Go.Proofs.YtocfnpnnbmicmaaDoor.Tc
open Go
theorem exm18 (K : Nat) : law35_AllocCheckExamples (K + 100) = some true := by kernel_rfl
theorem ev_ex18 : Ev (fun K _ => law35_AllocCheckExamples K) true := ⟨100, fun K k hK hk => by
  obtain ⟨j, rfl⟩ : ∃ j, K = j + 100 := ⟨K - 100, by omega⟩
  exact exm18 j⟩
end Go.Proofs.YtocfnpnnbmicmaaDoor.Tc
end
section
set_option linter.unusedVariables false
set_option linter.unusedSimpArgs false
namespace Go.Proofs.YtocfnpnnbmicmaaDoor.Tc
open Go
theorem pure8 (l : List Int) (a1 a2 a3 : Int) (_ : lenOk 8 l ∧ ∀ x, x ∈ l → I64 x) (_ : I64 a1) (_ : I64 a2) (_ : I64 a3) : ∃ K, law35_AllocCheckConflict K l a1 a2 a3 = some true := by
  refine Ev.fst ?_
  unfold law35_AllocCheckConflict
  refine ev_head fun p c hc => ?_
  have h := hc.vd
  have hp := hc.p0
  have hp2 := hc.p2
  have hr := hc.hr
  have g := gr_IF h
  have hal := (alc h).l
  obtain ⟨r, er, hr0, hr1⟩ := pick_ok a2 (m := c.Regs) (by omega) (by omega)
  obtain ⟨r, rfl⟩ : ∃ n : Nat, r = (n : Int) := ⟨r.toNat, by omega⟩
  have hrr : r < c.Regs.toNat := by omega
  have hx : idx (IFs c) (r : Int) = some (IF c r) := idx_eq (IFs_get hrr)
  refine Ev.bind (ev_ralloc h) (Ev.bind (ev_rint h) (Ev.bindO er ?_))
  rw [hc.al]
  refine Ev.bind (x := decide (((IF c r).length : Int) = 0)) (Ev.f (by simp) (Ev.bindO hx ((Ev.some _).cast (by rw [Bool.eq_iff_iff]; simp)))) ?_
  refine Ev.cnd (fun q => ?_) (fun q => ?_)
  · exact Ev.bind (Ev.t (by simp) (Ev.bind ev_ex18 (Ev.some _))) (Ev.some _)
  · have hpos : 0 < (IF c r).length := by have := of_decide_eq_false q; omega
    have hlen := (g.s r).len h
    obtain ⟨o, eo, ho0, ho1⟩ := pick_ok a3 (m := ((IF c r).length : Int)) (by omega) (by omega)
    obtain ⟨o, rfl⟩ : ∃ n : Nat, o = (n : Int) := ⟨o.toNat, by omega⟩
    have hol : o < (IF c r).length := by omega
    obtain ⟨y, hyo⟩ : ∃ y, (IF c r)[o]? = some y := ⟨_, List.getElem?_eq_getElem hol⟩
    have hy := List.mem_of_getElem? hyo
    have hyr := (g.s r).r _ hy
    obtain ⟨y, rfl⟩ : ∃ n : Nat, y = (n : Int) := ⟨y.toNat, by omega⟩
    have e1 := locA_idx (a := ALa c) hyr.1 (by omega)
    have e2 := locA_idx (a := ALa c) (r := (r : Int)) (by omega) (by omega)
    have hne : y ≠ r := fun e => g.i r (by rw [← e]; rw [e] at hy ⊢; exact hy)
    have hsb : SB c (⟨(ALa c).Locations.set (r : Int).toNat (locA (ALa c) (y : Int)), (ALa c).Spills, (ALa c).Slots⟩ : Allocation) = false := by
      refine row_sb hrr hy ?_
      have h1 : locA (⟨(ALa c).Locations.set (r : Int).toNat (locA (ALa c) (y : Int)), (ALa c).Spills, (ALa c).Slots⟩ : Allocation) (r : Int) = locA (ALa c) (y : Int) := by
        show locL ((ALa c).Locations.set (r : Int).toNat _) (r : Int) = _
        rw [Int.toNat_natCast, locL_set (by omega), if_pos rfl]
      have h2 : locA (⟨(ALa c).Locations.set (r : Int).toNat (locA (ALa c) (y : Int)), (ALa c).Spills, (ALa c).Slots⟩ : Allocation) (y : Int) = locA (ALa c) (y : Int) := by
        show locL ((ALa c).Locations.set (r : Int).toNat _) (y : Int) = _
        rw [Int.toNat_natCast, locL_set (by omega), if_neg hne]; rfl
      rw [h1, h2]; simp [sameL]
    have es := ev_psound h (⟨(ALa c).Locations.set (r : Int).toNat (locA (ALa c) (y : Int)), (ALa c).Spills, (ALa c).Slots⟩ : Allocation)
    rw [hsb] at es
    have ec := ev_check (d := true) es (fun q => by cases q)
    refine Ev.bindO hx (Ev.bindO hx (Ev.bindO eo (Ev.bindO (idx_eq hyo) (Ev.bindO e1 (Ev.bindO e2 (Ev.bind es (Ev.bind (x := true) (Ev.t rfl (Ev.bind ec (Ev.some _))) (Ev.bind (Ev.t rfl (Ev.bind ev_ex18 (Ev.some _))) (Ev.some _)))))))))
end Go.Proofs.YtocfnpnnbmicmaaDoor.Tc
end
