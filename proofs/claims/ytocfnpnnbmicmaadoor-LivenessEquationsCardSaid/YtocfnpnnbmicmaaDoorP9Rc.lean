/- What the laws share: the head, equality of lists, the examples' answer with any fuel. -/
import Derived.Test.YtocfnpnnbmicmaaDoorP8Rc
set_option linter.unusedVariables false
set_option linter.unusedSimpArgs false
set_option maxRecDepth 20000
namespace Go.Proofs.YtocfnpnnbmicmaaDoor.Tc
open Go

theorem upto {P : Nat → Prop} {n : Nat} (h0 : P n) (hs : ∀ i, i < n → P (i + 1) → P i) : P 0 := by
  have : ∀ d i, i + d = n → P i := by
    intro d
    induction d with
    | zero => intro i h; rw [show i = n by omega]; exact h0
    | succ d ih => intro i h; exact hs i (by omega) (ih (i + 1) (by omega))
  exact this n 0 (by omega)
theorem w64_succ {i : Nat} (h : i ≤ 17592186044000) : w64 ((i : Int) + 1) = ((i + 1 : Nat) : Int) := by rw [w64_id (by omega) (by omega)]; simp
theorem drop_get {α : Type} {l : List α} {i : Nat} (h : i < l.length) : l.drop i = l[i] :: l.drop (i + 1) := List.drop_eq_getElem_cons h
theorem take36 (l : List Int) (n : Nat) : subHi l (if (n : Int) < (l.length : Int) then (n : Int) else (l.length : Int)) = some (l.take n) := by
  by_cases h : (n : Int) < (l.length : Int)
  · rw [if_pos h]; exact subHi_eq (by omega)
  · rw [if_neg h, subHi_eq (Nat.le_refl _), List.take_length, List.take_of_length_le (by omega)]
theorem ev_same_l1 {a b : List Int} (ha : Sm a) (hl : a.length = b.length) : Ev (fun K k => ref22_SameInts_l1 K a b k 0) (if a = b then .inl () else .inr false) := by
  have key : ∀ n i, i + n = a.length → Ev (fun K k => ref22_SameInts_l1 K a b k (i : Int)) (if a.drop i = b.drop i then .inl () else .inr false) := by
    intro n
    induction n with
    | zero =>
      intro i hi
      refine Ev.step (fun K k => rfl) (Ev.f (by simp; omega) ((Ev.inn ()).cast ?_))
      rw [List.drop_eq_nil_of_le (by omega), List.drop_eq_nil_of_le (by omega), if_pos rfl]
    | succ n ih =>
      intro i hi
      have h1 : i < a.length := by omega
      have h2 : i < b.length := by omega
      refine Ev.step (fun K k => rfl) (Ev.t (by simp; omega) (Ev.bindO (idx_get h1) (Ev.bindO (idx_get h2) ?_)))
      have := ih (i + 1) (by omega)
      rw [drop_get h1, drop_get h2]
      by_cases e : a[i] = b[i]
      · refine Ev.f (by simp [e]) ?_
        simp only [w64_succ (i := i) (by omega), e, List.cons.injEq, true_and]
        exact this
      · refine Ev.t (by simpa using e) ((Ev.out (Ev.some false)).cast ?_)
        rw [if_neg (fun h => e (List.cons.inj h).1)]
  simpa using key a.length 0 (by omega)
theorem ev_same {a b : List Int} (ha : Sm a) : Ev (fun K _ => ref22_SameInts K a b) (decide (a = b)) := by
  unfold ref22_SameInts
  by_cases hl : a.length = b.length
  · refine Ev.f (by simp [hl]) ?_
    have h1 := Ev.loop (ev_same_l1 ha hl)
    by_cases e : a = b
    · rw [if_pos e] at h1
      exact (Ev.sql h1 (Ev.some _)).cast (by simp [e])
    · rw [if_neg e] at h1
      exact (Ev.sqr h1).cast (by simp [e])
  · exact Ev.t (by simp; omega) ((Ev.some _).cast (by symm; simp; intro e; exact hl (by rw [e])))
theorem same_l1_eq (K : Nat) (a b : List Int) : ∀ k s, ref32_SameInts_l1 K a b k s = ref22_SameInts_l1 K a b k s := by
  intro k
  induction k with
  | zero => intro s; rfl
  | succ k ih => intro s; simp only [ref32_SameInts_l1, ref22_SameInts_l1, ih]
theorem ev_same32 {a b : List Int} (ha : Sm a) : Ev (fun K _ => ref32_SameInts K a b) (decide (a = b)) := by
  refine Ev.cast (y := decide (a = b)) ?_ rfl
  have h := ev_same (b := b) ha
  unfold ref22_SameInts at h
  unfold ref32_SameInts
  simpa only [same_l1_eq] using h
theorem ev_contains' {c : VFunc} (h : Vd c) {l : List Int} (hl : RS c l) {x : Int} : Ev (fun K _ => ref32_Contains K l x) (l.contains x) := ev_contains (by have := hl.len h; unfold Sm; omega)

/-! ### Generated functions -/
theorem VF.len {p : Int} {c : VFunc} (h : VF p c) : 2 ≤ c.Blocks.length ∧ c.Blocks.length ≤ 7 := by
  obtain ⟨M, bs, e, h1, h2, h3, _⟩ := h.hb
  rw [e, List.length_cons]; omega
theorem VF.b0 {p : Int} {c : VFunc} (h : VF p c) : bk c 0 = firstB p (9 + p.toNat) := by
  obtain ⟨M, bs, e, _⟩ := h.hb
  unfold bk; rw [e]; rfl
theorem VF.bn {p : Int} {c : VFunc} (h : VF p c) {k : Nat} (h0 : 0 < k) (hk : k < c.Blocks.length) : BlkV p (9 + p) (c.Blocks.length - 1) (bk c k) := by
  obtain ⟨M, bs, e, h1, h2, h3, h4⟩ := h.hb
  obtain ⟨j, rfl⟩ : ∃ j, k = j + 1 := ⟨k - 1, by omega⟩
  have hl : c.Blocks.length - 1 = M := by rw [e, List.length_cons, h1]; omega
  have hj : j < bs.length := by rw [e, List.length_cons] at hk; omega
  have hb : bk c (j + 1) = bs[j] := by
    unfold bk; rw [e, List.getD_eq_getElem?_getD, List.getElem?_cons_succ, List.getElem?_eq_getElem hj]; rfl
  rw [hl, hb]; exact h4 _ (List.getElem_mem hj)
theorem mem_bk {c : VFunc} {b : Block} (h : b ∈ c.Blocks) : ∃ k, k < c.Blocks.length ∧ b = bk c k := by
  obtain ⟨k, hk, e⟩ := List.mem_iff_getElem.1 h
  refine ⟨k, hk, ?_⟩
  unfold bk; rw [List.getD_eq_getElem?_getD, List.getElem?_eq_getElem hk]; exact e.symm
theorem firstB_ins {p : Int} (h0 : 0 ≤ p) (h2 : p ≤ 2) : ∀ v, v ∈ (firstB p (9 + p.toNat)).Instrs → insB ⟨p, 9 + p, []⟩ v = true := by
  have h : p = 0 ∨ p = 1 ∨ p = 2 := by omega
  rcases h with rfl | rfl | rfl
  · exact List.all_eq_true.1 (by kernel_rfl)
  · exact List.all_eq_true.1 (by kernel_rfl)
  · exact List.all_eq_true.1 (by kernel_rfl)
theorem insB_blocks (p R : Int) (bs : List Block) (v : VInstr) : insB ⟨p, R, bs⟩ v = insB ⟨p, R, []⟩ v := rfl
theorem VF.vd {p : Int} {c : VFunc} (h : VF p c) : Vd c := by
  have hl := h.len
  have h0 := h.p0
  have h2 := h.p2
  have hc : c = ⟨p, 9 + p, c.Blocks⟩ := by
    cases c with
    | mk a b bs => simp only [VFunc.mk.injEq]; exact ⟨h.hp, h.hr, trivial⟩
  have hi : ∀ v, insB c v = insB ⟨p, 9 + p, []⟩ v := fun v => by rw [hc]; exact insB_blocks _ _ _ _
  refine ⟨validB_iff.2 ⟨headV_iff.2 ⟨by rw [h.hp]; exact h0, by rw [h.hp]; omega, by rw [h.hr]; omega, by rw [h.hr]; omega, by omega, by omega⟩, fun b hb => ?_⟩, fun b hb => ?_⟩
  · obtain ⟨k, hk, rfl⟩ := mem_bk hb
    rcases Nat.eq_zero_or_pos k with q | q
    · subst q
      rw [h.b0]
      refine ⟨fun v hv => ?_, ?_⟩
      · rw [hi]; exact firstB_ins h0 h2 v hv
      · show ((blkB c 1 && ((0 : Int) == 0)) && ((0 : Int) == 0)) = true
        rw [Bool.and_eq_true, Bool.and_eq_true]
        exact ⟨⟨blkB_iff.2 ⟨by omega, by omega⟩, rfl⟩, rfl⟩
    · have hb := h.bn q hk
      refine ⟨fun v hv => by rw [hi]; exact hb.i v hv, ?_⟩
      have hr := h.hr
      unfold endB
      rcases hb.e with e | e | e | e
      · obtain ⟨e1, e2, e3, e4, e5⟩ := e
        rw [e1, e4, e5]
        have := blkB_iff (c := c) (n := (bk c k).Target) |>.2 ⟨by omega, by omega⟩
        rw [this]; rfl
      · obtain ⟨e1, e2, e3, e4, e5, e6, e7⟩ := e
        rw [e1]
        have t1 := blkB_iff (c := c) (n := (bk c k).Target) |>.2 ⟨by omega, by omega⟩
        have t2 := blkB_iff (c := c) (n := (bk c k).Else) |>.2 ⟨by omega, by omega⟩
        have t3 := regB_iff (c := c) (n := (bk c k).Reg) |>.2 ⟨by omega, by omega⟩
        rw [t1, t2, t3]; rfl
      · obtain ⟨e1, e2, e3, e4, e5⟩ := e
        have t3 := regB_iff (c := c) (n := (bk c k).Reg) |>.2 ⟨by omega, by omega⟩
        rw [e1, e4, e5, t3]; rfl
      · obtain ⟨e1, e2, e3, e4, e5⟩ := e
        rw [e1, e4, e5]
        have a1 : decide ((bk c k).Target ≥ 1) = true := by simpa using e2
        have a2 : decide ((bk c k).Target < 33554432) = true := by simp; omega
        rw [a1, a2]; rfl
  · obtain ⟨k, hk, rfl⟩ := mem_bk hb
    rcases Nat.eq_zero_or_pos k with q | q
    · subst q; rw [h.b0]; simp [firstB]; omega
    · have := (h.bn q hk).n; omega
theorem VF.ilen {p : Int} {c : VFunc} (h : VF p c) {k : Nat} (hk : k < c.Blocks.length) : (bk c k).Instrs.length ≤ 11 := by
  rcases Nat.eq_zero_or_pos k with q | q
  · subst q; rw [h.b0]; have := h.p2; simp [firstB]; omega
  · have := (h.bn q hk).n; omega
/-- The head that most laws begin with. -/
theorem ev_head {f : Nat → Nat → VFunc → Option Bool} {l : List Int} {a : Int} {r : Bool} (h : ∀ p c, VF p c → Ev (fun K k => f K k c) r) : Ev (fun K k => Option.bind (subHi l (if 36 < (l.length : Int) then 36 else (l.length : Int))) (fun l1 => (Option.bind (keep_Pick a 3) (fun r3 => (Option.bind (keep2_VFunc K l1 r3) (fun r5 => f K k r5)))))) r := by
  obtain ⟨p, e, h0, h1⟩ := pick_ok a (m := 3) (by omega) (by omega)
  obtain ⟨c, ec, hc⟩ := ev_vfunc (l := l.take 36) (by simp; omega) h0 (p := p) (by omega)
  exact Ev.bindO (take36 l 36) (Ev.bindO e (Ev.bind ec (h p c hc)))

/-! ### The examples -/
theorem exm3 (K : Nat) : law33_LivenessExamples (K + 100) = some true := by kernel_rfl
theorem ev_ex3 : Ev (fun K _ => law33_LivenessExamples K) true := ⟨100, fun K k hK hk => by
  obtain ⟨j, rfl⟩ : ∃ j, K = j + 100 := ⟨K - 100, by omega⟩
  exact exm3 j⟩
end Go.Proofs.YtocfnpnnbmicmaaDoor.Tc
