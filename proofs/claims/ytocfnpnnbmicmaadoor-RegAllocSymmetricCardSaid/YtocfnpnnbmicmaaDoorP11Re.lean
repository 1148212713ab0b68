/- The interference graph: the program and the reference come to the same fold. -/
import Derived.Test.YtocfnpnnbmicmaaDoorP10Re
set_option linter.unusedVariables false
set_option linter.unusedSimpArgs false
namespace Go.Proofs.YtocfnpnnbmicmaaDoor.Tc
open Go

/-- a and x are made neighbors. -/
def cn1 (I : Nat → List Int) (a x : Int) : Nat → List Int := fup (fup I a.toNat (ins (I a.toNat) x)) x.toNat (ins (fup I a.toNat (ins (I a.toNat) x) x.toNat) a)
def mvB (v : VInstr) (x : Int) : Bool := (v.Instr.Op == 10) && (x == v.Instr.B)
def stX (v : VInstr) (a : Int) (I : Nat → List Int) (x : Int) : Nat → List Int := if (x != a) && !(mvB v x) then cn1 I a x else I
def stA (v : VInstr) (xs : List Int) (I : Nat → List Int) (a : Int) : Nat → List Int := xs.foldl (stX v a) I
def iAt (b : Block) (i : Nat) : VInstr := b.Instrs.getD i default
def stV (b : Block) (o : List Int) (I : Nat → List Int) (i : Nat) : Nat → List Int := (wr (iAt b i)).foldl (stA (iAt b i) (lp b o (i + 1))) I
noncomputable def stB (c : VFunc) (I : Nat → List Int) (k : Nat) : Nat → List Int := (List.range (bk c k).Instrs.length).foldl (stV (bk c k) (LO c k)) I
noncomputable def IF (c : VFunc) : Nat → List Int := (List.range c.Blocks.length).foldl (stB c) (fun _ => [])
theorem iAt_get {b : Block} {i : Nat} (h : i < b.Instrs.length) : b.Instrs[i]? = some (iAt b i) := by
  unfold iAt; rw [List.getD_eq_getElem?_getD, List.getElem?_eq_getElem h]; rfl
theorem Vd.ia {c : VFunc} (h : Vd c) {k i : Nat} (hk : k < c.Blocks.length) (hi : i < (bk c k).Instrs.length) : InsV c (iAt (bk c k) i) := h.i hk (List.mem_of_getElem? (iAt_get hi))

/-! ### What a fold keeps -/
theorem foldl_inv {α A : Type} {P : A → Prop} {g : A → α → A} {l : List α} (hs : ∀ a x, x ∈ l → P a → P (g a x)) {a : A} (ha : P a) : P (l.foldl g a) := by
  induction l generalizing a with
  | nil => exact ha
  | cons y l ih => exact ih (fun a x hx => hs a x (by simp [hx])) (hs a y (by simp) ha)
/-- The graph's rows: ascending registers, irreflexive, symmetric. -/
structure Gr (c : VFunc) (I : Nat → List Int) : Prop where
  s : ∀ k, RS c (I k)
  i : ∀ (k : Nat), (k : Int) ∉ I k
  y : ∀ (j k : Nat), (j : Int) ∈ I k → (k : Int) ∈ I j
theorem mem_fup {I : Nat → List Int} {a k : Nat} {l : List Int} {x : Int} : x ∈ fup I a l k ↔ if k = a then x ∈ l else x ∈ I k := by
  unfold fup; split <;> rfl
theorem mem_cn1 {I : Nat → List Int} {a x : Int} (ha : 0 ≤ a) (hx : 0 ≤ x) (hne : x ≠ a) {k : Nat} {y : Int} : y ∈ cn1 I a x k ↔ y ∈ I k ∨ ((k : Int) = a ∧ y = x) ∨ ((k : Int) = x ∧ y = a) := by
  unfold cn1
  rw [mem_fup, mem_ins, mem_fup, mem_fup, mem_ins]
  by_cases h1 : k = x.toNat
  · subst h1
    rw [if_pos rfl, if_neg (by omega)]
    have e1 : ((x.toNat : Nat) : Int) = x := by omega
    rw [e1]
    constructor
    · rintro (h | h)
      · exact .inr (.inr ⟨rfl, h⟩)
      · exact .inl h
    · rintro (h | h | h)
      · exact .inr h
      · exact absurd h.1 hne
      · exact .inl h.2
  · rw [if_neg h1]
    by_cases h2 : k = a.toNat
    · subst h2
      rw [if_pos rfl]
      have e1 : ((a.toNat : Nat) : Int) = a := by omega
      rw [e1]
      constructor
      · rintro (h | h)
        · exact .inr (.inl ⟨rfl, h⟩)
        · exact .inl h
      · rintro (h | h | h)
        · exact .inr h
        · exact .inl h.2
        · exact absurd h.1.symm hne
    · rw [if_neg h2]
      constructor
      · exact .inl
      · rintro (h | h | h)
        · exact h
        · omega
        · omega
theorem srt_cn1 {I : Nat → List Int} {a x : Int} (h : ∀ k, Srt (I k)) (k : Nat) : Srt (cn1 I a x k) := by
  have h1 : ∀ k, Srt (fup I a.toNat (ins (I a.toNat) x) k) := fun k => by
    unfold fup; split
    · exact srt_ins (h _)
    · exact h k
  unfold cn1
  generalize fup I a.toNat (ins (I a.toNat) x) = J at h1
  unfold fup; split
  · exact srt_ins (h1 _)
  · exact h1 k
theorem Gr.cn1 {c : VFunc} {I : Nat → List Int} (h : Gr c I) {a x : Int} (ha : 0 ≤ a ∧ a < c.Regs) (hx : 0 ≤ x ∧ x < c.Regs) (hne : x ≠ a) : Gr c (cn1 I a x) := by
  have m := fun (k : Nat) (y : Int) => mem_cn1 (I := I) ha.1 hx.1 hne (k := k) (y := y)
  refine ⟨fun k => ⟨srt_cn1 (fun k => (h.s k).s) k, fun y hy => ?_⟩, fun k hk => ?_, fun j k hj => ?_⟩
  · rcases (m k y).1 hy with q | ⟨_, q⟩ | ⟨_, q⟩
    · exact (h.s k).r y q
    · rw [q]; exact hx
    · rw [q]; exact ha
  · rcases (m k k).1 hk with q | ⟨q1, q2⟩ | ⟨q1, q2⟩
    · exact h.i k q
    · exact hne (q2.symm.trans q1)
    · exact hne (q1.symm.trans q2)
  · refine (m j k).2 ?_
    rcases (m k j).1 hj with q | ⟨q1, q2⟩ | ⟨q1, q2⟩
    · exact .inl (h.y j k q)
    · exact .inr (.inr ⟨q2, q1⟩)
    · exact .inr (.inl ⟨q2, q1⟩)
theorem Gr.stX {c : VFunc} {I : Nat → List Int} (h : Gr c I) {v : VInstr} {a x : Int} (ha : 0 ≤ a ∧ a < c.Regs) (hx : 0 ≤ x ∧ x < c.Regs) : Gr c (stX v a I x) := by
  unfold Tc.stX
  split
  · rename_i hc
    simp only [Bool.and_eq_true, bne_iff_ne] at hc
    exact h.cn1 ha hx hc.1
  · exact h
theorem Gr.stV {c : VFunc} (hv : Vd c) {I : Nat → List Int} (h : Gr c I) {k i : Nat} (hk : k < c.Blocks.length) (hi : i < (bk c k).Instrs.length) : Gr c (stV (bk c k) (LO c k) I i) := by
  have hv2 := hv.ia hk hi
  have hl := RS.lp (hv.iv hk) (hv.e hk) (RS.LO hv k) (i + 1)
  unfold Tc.stV
  refine foldl_inv (P := Gr c) (fun I a ha hI => ?_) h
  unfold stA
  exact foldl_inv (P := Gr c) (fun I x hx hI => hI.stX (hv2.w a ha) (hl.r x hx)) hI
theorem Gr.stB {c : VFunc} (hv : Vd c) {I : Nat → List Int} (h : Gr c I) {k : Nat} (hk : k < c.Blocks.length) : Gr c (stB c I k) := by
  unfold Tc.stB
  exact foldl_inv (P := Gr c) (fun I i hi hI => hI.stV hv hk (List.mem_range.1 hi)) h
theorem Gr.nil (c : VFunc) : Gr c (fun _ => []) := ⟨fun k => RS.nil c, fun k h => by simp at h, fun j k h => by simp at h⟩
theorem gr_IF {c : VFunc} (hv : Vd c) : Gr c (IF c) := by
  unfold IF
  exact foldl_inv (P := Gr c) (fun I k hk hI => hI.stB hv (List.mem_range.1 hk)) (Gr.nil c)

/-! ### The program -/
theorem add_inv {ws ws' : List Int} {a : Int} (h : liveness_set_add ws a = some ws') : ∃ y, idx ws (w64 (Int.tdiv a 64)) = some y ∧ ws' = ws.set (w64 (Int.tdiv a 64)).toNat (bOr .u64 y (bShl .u64 1 (u64 (Int.tmod a 64)))) := by
  unfold liveness_set_add at h
  cases hy : idx ws (w64 (Int.tdiv a 64)) with
  | none => rw [hy] at h; cases h
  | some y => rw [hy] at h; exact ⟨y, rfl, (Option.some.inj h).symm⟩
theorem rep_row {n w : Nat} {rows : List (List Int)} {I : Nat → List Int} (h : RepS n w rows I) {a : Int} (h0 : 0 ≤ a) (h1 : a < n) : ∃ ws, idx rows a = some ws ∧ Rep w ws (I a.toNat) := by
  obtain ⟨ws, h2, h3⟩ := h.r a.toNat (by omega)
  refine ⟨ws, ?_, h3⟩
  have := idx_eq h2
  rwa [show ((a.toNat : Nat) : Int) = a by omega] at this
theorem connect_ok {c : VFunc} (h : Vd c) {rows : List (List Int)} {I : Nat → List Int} (hr : RepS c.Regs.toNat (nw c.Regs) rows I) {a x : Int} (ha : 0 ≤ a ∧ a < c.Regs) (hx : 0 ≤ x ∧ x < c.Regs) : ∃ rows', regalloc_Interference_1 a x rows = some rows' ∧ RepS c.Regs.toNat (nw c.Regs) rows' (cn1 I a x) := by
  have hR := h.h.r1
  obtain ⟨w1, e1, r1⟩ := rep_row hr ha.1 (by omega)
  obtain ⟨w1', a1, q1⟩ := add_ok hR r1 hx.1 hx.2
  have s1 := hr.set (k := a.toNat) (by omega) q1
  obtain ⟨w2, e2, r2⟩ := rep_row s1 hx.1 (by omega)
  obtain ⟨w2', a2, q2⟩ := add_ok hR r2 ha.1 ha.2
  have s2 := s1.set (k := x.toNat) (by omega) q2
  obtain ⟨y1, i1, z1⟩ := add_inv a1
  obtain ⟨y2, i2, z2⟩ := add_inv a2
  refine ⟨_, ?_, s2⟩
  unfold regalloc_Interference_1
  simp only [e1, Option.bind_some, i1]
  rw [← z1]
  simp only [e2, Option.bind_some, i2]
  rw [← z2]
theorem int_l5 {c : VFunc} (h : Vd c) {v : VInstr} {a : Int} (ha : 0 ≤ a ∧ a < c.Regs) {xs : List Int} (hx : RS c xs) {rows : List (List Int)} {I : Nat → List Int} (hr : RepS c.Regs.toNat (nw c.Regs) rows I) : ∃ rows', RepS c.Regs.toNat (nw c.Regs) rows' (stA v xs I a) ∧ Ev (fun K k => regalloc_Interference_l5 K v a xs k (0, rows)) rows' := by
  have hlen := hx.len h
  exact ev_fold xs (fun K k i s => regalloc_Interference_l5 K v a xs k (i, s)) id (stX v a) (fun I s => RepS c.Regs.toNat (nw c.Regs) s I)
    (fun s => Ev.step (fun K k => rfl) (Ev.f (by simp) (Ev.some _)))
    (fun i x I s hxi hi hs => by
      have hxr := hx.r x (List.mem_of_getElem? hxi)
      have key : ∃ s', RepS c.Regs.toNat (nw c.Regs) s' (stX v a I x) ∧ Ev (fun (K k : Nat) => cnd ((x != a) && (!((v.Instr.Op == 10) && (x == v.Instr.B)))) (Option.bind (regalloc_Interference_1 a x s) (fun r85 => (some r85))) (some s)) s' := by
        unfold stX mvB
        cases hc : (x != a) && (!((v.Instr.Op == 10) && (x == v.Instr.B))) with
        | true =>
          obtain ⟨s', e, r⟩ := connect_ok h hs ha hxr
          exact ⟨s', by simpa using r, Ev.t rfl (Ev.bindO e (Ev.some _))⟩
        | false => exact ⟨s, by simpa using hs, Ev.f rfl (Ev.some _)⟩
      obtain ⟨s', r, e⟩ := key
      refine ⟨s', r, fun r' hr' => Ev.step (fun K k => rfl) (Ev.t (by simpa using hi) (Ev.bind (x := s') (Ev.bindO (idx_eq hxi) e) ?_))⟩
      simp only [w64_succ (i := i) (by omega)]; exact hr') I rows hr
theorem int_l4 {c : VFunc} (h : Vd c) {k i : Nat} (hk : k < c.Blocks.length) (hi : i < (bk c k).Instrs.length) {t t' : List (List Int)} {rows : List (List Int)} {I : Nat → List Int} (hr : RepS c.Regs.toNat (nw c.Regs) rows I) : ∃ rows', RepS c.Regs.toNat (nw c.Regs) rows' (stV (bk c k) (LO c k) I i) ∧ Ev (fun K n => regalloc_Interference_l4 K ((List.range c.Blocks.length).map (PT c)) ((k : Int), t) ((i : Int), t') (iAt (bk c k) i) (wr (iAt (bk c k) i)) n (0, rows)) rows' := by
  have hlen := h.len hk
  have hv := h.ia hk hi
  have hwl : (wr (iAt (bk c k) i)).length ≤ 1 := by unfold wr; split <;> simp
  have hl := RS.lp (h.iv hk) (h.e hk) (RS.LO h k) (i + 1)
  have hg : idx ((List.range c.Blocks.length).map (PT c)) (k : Int) = some (PT c k) := idx_eq (by rw [List.getElem?_map, List.getElem?_range hk]; rfl)
  exact ev_fold (wr (iAt (bk c k) i)) (fun K n j s => regalloc_Interference_l4 K ((List.range c.Blocks.length).map (PT c)) ((k : Int), t) ((i : Int), t') (iAt (bk c k) i) (wr (iAt (bk c k) i)) n (j, s)) id (stA (iAt (bk c k) i) (lp (bk c k) (LO c k) (i + 1))) (fun I s => RepS c.Regs.toNat (nw c.Regs) s I)
    (fun s => Ev.step (fun K k => rfl) (Ev.f (by simp) (Ev.some _)))
    (fun j a I s ha hj hs => by
      obtain ⟨s', r, e⟩ := int_l5 h (v := iAt (bk c k) i) (hv.w a (List.mem_of_getElem? ha)) hl hs
      refine ⟨s', r, fun r' hr' => Ev.step (fun K k => rfl) (Ev.t (by simpa using hj) (Ev.bindO (idx_eq ha) (Ev.bindO hg ?_)))⟩
      simp only [w64_succ (i := i) (by omega), w64_succ (i := j) (by omega)]
      exact Ev.bindO (idx_eq (PT_get (by omega))) (Ev.bind (Ev.loop e) hr')) I rows hr
theorem int_l3 {c : VFunc} (h : Vd c) {k : Nat} (hk : k < c.Blocks.length) {t : List (List Int)} {rows : List (List Int)} {I : Nat → List Int} (hr : RepS c.Regs.toNat (nw c.Regs) rows I) : ∃ rows', RepS c.Regs.toNat (nw c.Regs) rows' (stB c I k) ∧ Ev (fun K n => regalloc_Interference_l3 K ((List.range c.Blocks.length).map (PT c)) ((k : Int), t) (bk c k) n (0, rows)) rows' := by
  have hlen := h.len hk
  exact ev_fold (List.range (bk c k).Instrs.length) (fun K n j s => regalloc_Interference_l3 K ((List.range c.Blocks.length).map (PT c)) ((k : Int), t) (bk c k) n (j, s)) id (stV (bk c k) (LO c k)) (fun I s => RepS c.Regs.toNat (nw c.Regs) s I)
    (fun s => Ev.step (fun K k => rfl) (Ev.f (by simp) (Ev.some _)))
    (fun j i I s hi hj hs => by
      have hj : j < (bk c k).Instrs.length := by simpa using hj
      have : i = j := by rw [List.getElem?_range hj] at hi; exact (Option.some.inj hi).symm
      subst this
      obtain ⟨s', r, e⟩ := int_l4 h hk hj (t := t) (t' := s) hs
      refine ⟨s', r, fun r' hr' => Ev.step (fun K k => rfl) (Ev.t (by simpa using hj) (Ev.bindO (idx_eq (iAt_get hj)) (Ev.bindO (vwrites _) (Ev.bind (Ev.loop e) ?_))))⟩
      simp only [w64_succ (i := i) (by omega)]; exact hr') I rows hr
theorem int_l2 {c : VFunc} (h : Vd c) {rows : List (List Int)} (hr : RepS c.Regs.toNat (nw c.Regs) rows (fun _ => [])) : ∃ rows', RepS c.Regs.toNat (nw c.Regs) rows' (IF c) ∧ Ev (fun K n => regalloc_Interference_l2 K c ((List.range c.Blocks.length).map (PT c)) n (0, rows)) rows' := by
  have hb1 := h.h.b1
  exact ev_fold (List.range c.Blocks.length) (fun K n j s => regalloc_Interference_l2 K c ((List.range c.Blocks.length).map (PT c)) n (j, s)) id (stB c) (fun I s => RepS c.Regs.toNat (nw c.Regs) s I)
    (fun s => Ev.step (fun K k => rfl) (Ev.f (by simp) (Ev.some _)))
    (fun j i I s hi hj hs => by
      have hj : j < c.Blocks.length := by simpa using hj
      have : i = j := by rw [List.getElem?_range hj] at hi; exact (Option.some.inj hi).symm
      subst this
      obtain ⟨s', r, e⟩ := int_l3 h hj (t := s) hs
      refine ⟨s', r, fun r' hr' => Ev.step (fun K k => rfl) (Ev.t (by simpa using hj) (Ev.bindO (bk_idx hj) (Ev.bind (Ev.loop e) ?_)))⟩
      simp only [w64_succ (i := i) (by omega)]; exact hr') _ rows hr
theorem int_l1 {c : VFunc} (h : Vd c) {l5 : List (List Int)} (hl : l5.length = c.Regs.toNat) : ∃ rows, RepS c.Regs.toNat (nw c.Regs) rows (fun _ => []) ∧ Ev (fun K n => regalloc_Interference_l1 K c l5 n (0, l5)) rows := by
  obtain ⟨ws, he, hr⟩ := empty_ok h.h.r0 h.h.r1
  have h0 := h.h.r0
  have h1 := h.h.r1
  have hmk : mk 8 (w64 (Int.tdiv (w64 (c.Regs + 63)) 64)) (0 : Int) = some ws := by
    unfold liveness_empty at he
    cases hm : mk 8 (w64 (Int.tdiv (w64 (c.Regs + 63)) 64)) (0 : Int) with
    | none => rw [hm] at he; cases he
    | some y => rw [hm] at he; exact he
  have key : ∀ n j (s : List (List Int)), j + n = c.Regs.toNat → s.length = c.Regs.toNat → (∀ i, i < j → s[i]? = some ws) → ∃ s', (s'.length = c.Regs.toNat ∧ ∀ i, i < c.Regs.toNat → s'[i]? = some ws) ∧ Ev (fun K k => regalloc_Interference_l1 K c l5 k ((j : Int), s)) s' := by
    intro n
    induction n with
    | zero => intro j s hj hs ha; exact ⟨s, ⟨hs, fun i hi => ha i (by omega)⟩, Ev.step (fun K k => rfl) (Ev.f (by simp [hl]; omega) (Ev.some _))⟩
    | succ n ih =>
      intro j s hj hs ha
      obtain ⟨s', h2, e⟩ := ih (j + 1) (s.set j ws) (by omega) (by simpa using hs) fun i hi => by
        by_cases q : i = j
        · subst q; exact List.getElem?_set_self (by omega)
        · rw [List.getElem?_set_ne (Ne.symm q)]; exact ha i (by omega)
      refine ⟨s', h2, Ev.step (fun K k => rfl) (Ev.t (by simp [hl]; omega) (Ev.bindO hmk (Ev.bindO (idx_get (l := s) (i := j) (by omega)) ?_)))⟩
      simp only [w64_succ (i := j) (by omega), Int.toNat_natCast]; exact e
  obtain ⟨s', ⟨h2, h3⟩, e⟩ := key c.Regs.toNat 0 l5 (by omega) hl (fun i hi => by omega)
  exact ⟨s', ⟨h2, fun k hk => ⟨ws, h3 k hk, hr⟩⟩, e⟩
theorem has_ok {c : VFunc} (h : Vd c) {ws l : List Int} (hr : Rep (nw c.Regs) ws l) {a : Int} (h0 : 0 ≤ a) (ha : a < c.Regs) : ∃ y, idx ws (w64 (Int.tdiv a 64)) = some y ∧ (bAnd .u64 (bShr .u64 y (u64 (Int.tmod a 64))) 1 == 1) = l.contains a := by
  have hR := h.h.r1
  have hlt : a.toNat / 64 < ws.length := by rw [hr.w.1]; unfold nw; omega
  have hu := hr.w.get hlt
  have hm : a.toNat % 64 < 64 := Nat.mod_lt _ (by omega)
  refine ⟨ws[a.toNat / 64], ?_, ?_⟩
  · rw [div64 h0 (by omega)]; exact idx_get hlt
  · rw [mod64 h0]
    have e := bShr_eq hu (b := a.toNat % 64) (by omega)
    rw [bAnd_one (by
      rw [e]
      have : ws[a.toNat / 64].toNat >>> (a.toNat % 64) ≤ ws[a.toNat / 64].toNat := by rw [Nat.shiftRight_eq_div_pow]; exact Nat.div_le_self _ _
      have := u64_lt hu
      generalize ws[a.toNat / 64].toNat >>> (a.toNat % 64) = n at *
      exact ⟨by omega, by omega⟩), e]
    have e2 : tb ((ws[a.toNat / 64].toNat >>> (a.toNat % 64) : Nat) : Int) 0 = tb ws[a.toNat / 64] (a.toNat % 64) := by
      unfold tb
      rw [Int.toNat_natCast, Nat.testBit_shiftRight]; rfl
    rw [e2, wb_at hlt, Bool.eq_iff_iff]
    have := hr.m a
    simp only [List.contains_iff_mem, this]
    constructor
    · exact fun q => ⟨h0, q⟩
    · exact fun q => q.2
/-- The registers below n of l. -/
def bel (l : List Int) (n : Nat) : List Int := ((List.range n).filter (fun m : Nat => l.contains (m : Int))).map (fun m : Nat => (m : Int))
theorem bel_succ (l : List Int) (n : Nat) : bel l (n + 1) = if l.contains (n : Int) then bel l n ++ [(n : Int)] else bel l n := by
  unfold bel
  rw [List.range_succ, List.filter_append, List.map_append, List.filter_cons]
  split <;> simp
theorem bel_len (l : List Int) (n : Nat) : (bel l n).length ≤ n := by
  unfold bel
  rw [List.length_map]
  exact Nat.le_trans (List.length_filter_le _ _) (by simp)
theorem bel_all {c : VFunc} {l : List Int} (hl : RS c l) (h0 : 0 ≤ c.Regs) : bel l c.Regs.toNat = l := by
  refine srt_ext ?_ hl.s fun x => ?_
  · unfold bel Srt
    rw [List.pairwise_map]
    exact List.Pairwise.imp (fun h => by omega) (List.Pairwise.filter _ List.pairwise_lt_range)
  · unfold bel
    simp only [List.mem_map, List.mem_filter, List.mem_range, List.contains_iff_mem]
    constructor
    · rintro ⟨n, ⟨_, h2⟩, rfl⟩; exact h2
    · intro hx
      have := hl.r x hx
      exact ⟨x.toNat, ⟨by omega, by rw [show ((x.toNat : Nat) : Int) = x by omega]; exact hx⟩, by omega⟩
theorem int_l7 {c : VFunc} (h : Vd c) {k : Nat} (hk : k < c.Regs.toNat) {rows : List (List Int)} {I : Nat → List Int} (hr : RepS c.Regs.toNat (nw c.Regs) rows I) (hI : RS c (I k)) {t : List (List Int) × List (List Int)} {outs : List (List Int)} (ho : outs[k]? = some []) : Ev (fun K n => regalloc_Interference_l7 K c ((k : Int), t) n (0, outs, rows)) (outs.set k (I k), rows) := by
  have h0 := h.h.r0
  have h1 := h.h.r1
  obtain ⟨ws, e1, r1⟩ := hr.r k hk
  have hlt : k < outs.length := by
    rcases Nat.lt_or_ge k outs.length with q | q
    · exact q
    · rw [List.getElem?_eq_none q] at ho; cases ho
  have key : Ev (fun K n => regalloc_Interference_l7 K c ((k : Int), t) n (((0 : Nat) : Int), outs.set k (bel (I k) 0), rows)) (outs.set k (I k), rows) := by
    refine upto (P := fun i => Ev (fun K n => regalloc_Interference_l7 K c ((k : Int), t) n ((i : Int), outs.set k (bel (I k) i), rows)) (outs.set k (I k), rows)) (n := c.Regs.toNat) ?_ fun i hi ih => ?_
    · refine Ev.step (fun K k => rfl) (Ev.f (by simp; omega) ((Ev.some _).cast ?_))
      rw [bel_all hI h0]
    · obtain ⟨y, e2, e3⟩ := has_ok h r1 (a := (i : Int)) (by omega) (by omega)
      have hbl := bel_len (I k) i
      refine Ev.step (fun K k => rfl) (Ev.t (by simp; omega) (Ev.bind (x := (outs.set k (bel (I k) (i + 1)), rows)) (Ev.bindO (idx_eq e1) (Ev.bindO e2 ?_)) ?_))
      · rw [e3, bel_succ]
        simp only [Int.toNat_natCast, sets_same e1]
        cases hc : (I k).contains (i : Int) with
        | true =>
          refine Ev.t rfl (Ev.bindO (idx_eq (List.getElem?_set_self hlt)) (Ev.bindO (app_eq (by simp; omega) (by simp; omega)) ((Ev.some _).cast ?_)))
          rw [List.set_set]; rfl
        | false => exact Ev.f rfl (Ev.some _)
      · simp only [w64_succ (i := i) (by omega)]; exact ih
  have e0 : outs.set k (bel (I k) 0) = outs := sets_same ho
  rw [e0] at key
  exact key
theorem int_l6 {c : VFunc} (h : Vd c) {rows : List (List Int)} {I : Nat → List Int} (hr : RepS c.Regs.toNat (nw c.Regs) rows I) (hI : ∀ k, RS c (I k)) : ∃ o, Ev (fun K n => regalloc_Interference_l6 K c rows n (0, List.replicate c.Regs.toNat [], rows)) (o, rows) ∧ o = (List.range c.Regs.toNat).map I := by
  have h0 := h.h.r0
  have h1 := h.h.r1
  have key : ∀ n j (outs : List (List Int)), j + n = c.Regs.toNat → outs.length = c.Regs.toNat → (∀ i, i < j → outs[i]? = some (I i)) → (∀ i, j ≤ i → i < c.Regs.toNat → outs[i]? = some []) → ∃ o, Ev (fun K n => regalloc_Interference_l6 K c rows n ((j : Int), outs, rows)) (o, rows) ∧ RepL c.Regs.toNat o I := by
    intro n
    induction n with
    | zero => intro j outs hj hl ha hb; exact ⟨outs, Ev.step (fun K k => rfl) (Ev.f (by simp [hr.l]; omega) (Ev.some _)), hl, fun i hi => ha i (by omega)⟩
    | succ n ih =>
      intro j outs hj hl ha hb
      have hk : j < c.Regs.toNat := by omega
      obtain ⟨o, e, h2⟩ := ih (j + 1) (outs.set j (I j)) (by omega) (by simpa using hl)
        (fun i hi => by
          by_cases q : i = j
          · subst q; exact List.getElem?_set_self (by omega)
          · rw [List.getElem?_set_ne (Ne.symm q)]; exact ha i (by omega))
        (fun i hi hi2 => by rw [List.getElem?_set_ne (by omega)]; exact hb i (by omega) hi2)
      refine ⟨o, Ev.step (fun K k => rfl) (Ev.t (by simp [hr.l]; omega) (Ev.bind (Ev.loop (int_l7 h hk hr (hI j) (hb j (Nat.le_refl _) hk))) ?_)), h2⟩
      simp only [w64_succ (i := j) (by omega)]; exact e
  obtain ⟨o, e, h2⟩ := key c.Regs.toNat 0 (List.replicate c.Regs.toNat []) (by omega) (by simp) (fun i hi => by omega) (fun i _ hi => by rw [List.getElem?_replicate, if_pos hi])
  exact ⟨o, e, h2.eq⟩
noncomputable def IFs (c : VFunc) : List (List Int) := (List.range c.Regs.toNat).map (IF c)
theorem IFs_len (c : VFunc) : (IFs c).length = c.Regs.toNat := by simp [IFs]
theorem IFs_get {c : VFunc} {k : Nat} (h : k < c.Regs.toNat) : (IFs c)[k]? = some (IF c k) := by unfold IFs; rw [List.getElem?_map, List.getElem?_range h]; rfl
theorem ev_pint {c : VFunc} (h : Vd c) : Ev (fun K _ => regalloc_Interference K c) (IFs c) := by
  have h0 := h.h.r0
  have h1 := h.h.r1
  have hmk : mk 24 c.Regs ([] : List Int) = some (List.replicate c.Regs.toNat []) := by
    have := mk_eq (bytes := 24) (n := c.Regs.toNat) (y := ([] : List Int)) (by omega) (by omega)
    rwa [show ((c.Regs.toNat : Nat) : Int) = c.Regs by omega] at this
  obtain ⟨rows, r1, e1⟩ := int_l1 h (l5 := List.replicate c.Regs.toNat []) (by simp)
  obtain ⟨rows2, r2, e2⟩ := int_l2 h r1
  obtain ⟨o, e3, ho⟩ := int_l6 h r2 (fun k => (gr_IF h).s k)
  unfold regalloc_Interference
  refine Ev.bind (ev_vvalid h.sm) (Ev.f (by rw [h.v]; rfl) (Ev.bindO hmk (Ev.bind (Ev.loop e1) (Ev.bind (ev_points h) (Ev.bind (Ev.loop e2) (Ev.bindO hmk (Ev.bind (Ev.loop e3) ((Ev.some _).cast ho))))))))
theorem ev_pint0 {c : VFunc} (h : SmF c) (hv : validB c = false) : Ev (fun K _ => regalloc_Interference K c) [] := by
  unfold regalloc_Interference
  exact Ev.bind (ev_vvalid h) (Ev.t (by rw [hv]; rfl) (Ev.some _))
end Go.Proofs.YtocfnpnnbmicmaaDoor.Tc
