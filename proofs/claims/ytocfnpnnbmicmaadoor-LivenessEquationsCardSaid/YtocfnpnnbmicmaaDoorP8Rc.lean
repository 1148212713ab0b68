/- The generated functions (keep2.VFunc) are valid, and write every register in block 0. -/
import Derived.Test.YtocfnpnnbmicmaaDoorP7Rc
set_option linter.unusedVariables false
set_option linter.unusedSimpArgs false
set_option maxRecDepth 20000
namespace Go.Proofs.YtocfnpnnbmicmaaDoor.Tc
open Go

theorem pick_ok (a : Int) {m : Int} (h0 : 0 < m) (h1 : m ≤ 1000000000000) : ∃ r, keep_Pick a m = some r ∧ 0 ≤ r ∧ r < m := by
  have h2 := Int.tmod_lt_of_pos a h0
  have h3 : -m < Int.tmod a m := by
    have := Int.tmod_lt_of_pos (-a) h0
    rw [Int.neg_tmod] at this; omega
  unfold keep_Pick
  have hg : (m != 0) = true := by simp; omega
  rw [hg]
  by_cases h : Int.tmod a m < 0
  · refine ⟨Int.tmod a m + m, ?_, by omega, by omega⟩
    simp only [guardO, cnd, h, decide_true, Option.bind_some]
    rw [w64_id (by omega) (by omega)]
  · exact ⟨Int.tmod a m, by simp only [guardO, cnd, h, decide_false, Option.bind_some], by omega, h2⟩
theorem next_ok (d : Fullingkeep2Digits) {m : Int} (h0 : 0 < m) (h1 : m ≤ 1000000000000) : ∃ r d', keep2_Digits_Next d m = some (r, d') ∧ 0 ≤ r ∧ r < m := by
  obtain ⟨r, e, h2, h3⟩ := pick_ok d.N h0 h1
  refine ⟨r, ⟨w64 (Int.tdiv (w64 (d.N - r)) m)⟩, ?_, h2, h3⟩
  unfold keep2_Digits_Next
  have hg : (m != 0) = true := by simp; omega
  rw [e, Option.bind_some, hg]; rfl
theorem word_ok (a b : Int) : ∃ r, keep_Word a b = some r := by
  obtain ⟨r1, e1, h1, h2⟩ := pick_ok a (m := 24) (by omega) (by omega)
  unfold keep_Word
  rw [e1, Option.bind_some]
  by_cases h : r1 < 10
  · simp only [h, decide_true, cnd]
    have : (r1.toNat) < ([0, 1, (-1), 2, (-9223372036854775808), 9223372036854775807, 4294967296, (-2147483648), 63, 64] : List Int).length := by simp; omega
    have e := idx_get this
    rw [show ((r1.toNat : Nat) : Int) = r1 by omega] at e
    rw [e]; exact ⟨_, rfl⟩
  · simp only [h, decide_false, cnd]
    by_cases h3 : r1 < 22
    · simp only [h3, decide_true]
      obtain ⟨r2, e2, _, _⟩ := pick_ok (w64 (Int.tdiv a 24)) (m := 17) (by omega) (by omega)
      rw [e2]; exact ⟨_, rfl⟩
    · simp only [h3, decide_false]; exact ⟨_, rfl⟩
/-- The operations that are generated. -/
def opsV : List Int := [3, 6, 9, 10, 11, 12, 13, 33, 34, 35, 15, 16, 17, 18, 19, 20, 21, 22, 23, 24, 25, 26, 27, 28, 29, 30, 31, 32]
theorem inf_all : opsV.all (fun op => alw op && decide ((ref29_Info op).map (fun x => x.1.Form) = some (fm op)) && (op != 38)) = true := by kernel_rfl
theorem inf_eq {op : Int} (h : op ∈ opsV) : alw op = true ∧ (∃ x, ref29_Info op = some x ∧ x.1.Form = fm op) ∧ op ≠ 38 := by
  have := List.all_eq_true.1 inf_all op h
  simp only [Bool.and_eq_true, decide_eq_true_eq, bne_iff_ne] at this
  refine ⟨this.1.1, ?_, this.2⟩
  have h2 := this.1.2
  cases hx : ref29_Info op with
  | none => rw [hx] at h2; cases h2
  | some x => rw [hx] at h2; exact ⟨x, rfl, Option.some.inj h2⟩
def regR (R n : Int) : Prop := 0 ≤ n ∧ n < R
theorem ev_vinstr_l1 {c : VFunc} (h0 : 0 < c.Regs) (h1 : c.Regs ≤ 3000) : ∀ (n : Nat) (d : Int) (ag : List Int), ag.length + n ≤ 2 → (∀ x, x ∈ ag → regB c x = true) →
    ∃ d' ag', Ev (fun K k => keep2_VInstr_l1 K c k ((n : Int), d, ag)) (d', ag') ∧ ag'.length ≤ 2 ∧ ∀ x, x ∈ ag' → regB c x = true := by
  intro n
  induction n with
  | zero => intro d ag h2 h3; exact ⟨d, ag, Ev.step (fun K k => rfl) (Ev.f (by simp) (Ev.some _)), by omega, h3⟩
  | succ n ih =>
    intro d ag h2 h3
    obtain ⟨r, d', e, h4, h5⟩ := next_ok ⟨d⟩ (m := c.Regs) h0 (by omega)
    obtain ⟨d2, as2, e2, h6⟩ := ih d'.N (ag ++ [r]) (by simp; omega) fun x hx => by
      rcases List.mem_append.1 hx with q | q
      · exact h3 x q
      · rw [List.mem_singleton.1 q]; exact regB_iff.2 ⟨h4, h5⟩
    refine ⟨d2, as2, Ev.step (fun K k => rfl) (Ev.t (by simp) (Ev.bindO e (Ev.bindO (app_eq (by simp; omega) (by simp; omega)) ?_))), h6⟩
    have hw : w64 (((n + 1 : Nat) : Int) - 1) = (n : Int) := by rw [w64_id (by omega) (by omega)]; omega
    simp only [hw]; exact e2
theorem ev_vinstr {c : VFunc} (h0 : 0 < c.Regs) (h1 : c.Regs ≤ 3000) (n : Int) : ∃ v, Ev (fun K _ => keep2_VInstr K n c) v ∧ insB c v = true := by
  unfold keep2_VInstr
  obtain ⟨r4, d4, e4, h4, h5⟩ := next_ok ⟨n⟩ (m := 18) (by omega) (by omega)
  obtain ⟨r11, d11, e11, h11, h12⟩ := next_ok d4 (m := 24) (by omega) (by omega)
  -- the operation
  have hop : ∃ op, op ∈ opsV ∧ (Option.bind (keep2_Digits_Next d4 24) (fun r11 => (cnd (decide (r11.1 < ((([3, 6, 9, 10, 11, 12, 13, 33, 34, 35, 10, 9] : List Int)).length : Int))) (Option.bind (idx ([3, 6, 9, 10, 11, 12, 13, 33, 34, 35, 10, 9] : List Int) r11.1) (fun y14 => (some (y14, r11.2.N)))) (some ((w64 (15 + r4)), r11.2.N))))) = some (op, d11.N) := by
    rw [e11, Option.bind_some]
    by_cases hr : r11 < 12
    · have hlt : r11.toNat < ([3, 6, 9, 10, 11, 12, 13, 33, 34, 35, 10, 9] : List Int).length := by simp; omega
      have e := idx_get hlt
      rw [show ((r11.toNat : Nat) : Int) = r11 by omega] at e
      refine ⟨([3, 6, 9, 10, 11, 12, 13, 33, 34, 35, 10, 9] : List Int)[r11.toNat], ?_, ?_⟩
      · have hm : ∀ x, x ∈ ([3, 6, 9, 10, 11, 12, 13, 33, 34, 35, 10, 9] : List Int) → x ∈ opsV := by decide
        exact hm _ (List.getElem_mem hlt)
      · have : decide (r11 < ((([3, 6, 9, 10, 11, 12, 13, 33, 34, 35, 10, 9] : List Int)).length : Int)) = true := by simp; omega
        simp only [this, cnd, e, Option.bind_some]
    · refine ⟨15 + r4, ?_, ?_⟩
      · simp only [opsV, List.mem_cons, List.not_mem_nil, or_false]; omega
      · have : decide (r11 < ((([3, 6, 9, 10, 11, 12, 13, 33, 34, 35, 10, 9] : List Int)).length : Int)) = false := by simp; omega
        simp only [this, cnd, Option.bind_some]
        rw [w64_id (by omega) (by omega)]
  obtain ⟨op, hmem, hop⟩ := hop
  obtain ⟨ha, ⟨x, ex, hx⟩, h38⟩ := inf_eq hmem
  obtain ⟨f1, f2, f3⟩ := form_eq ha
  simp only [e4, Option.bind_some, hop, ex]
  -- A, B, C
  have reg : ∀ (b : Bool) (d : Int), ∃ r d', cnd b (Option.bind (keep2_Digits_Next (⟨d⟩ : Fullingkeep2Digits) c.Regs) (fun r26 => (some (r26.1, r26.2.N)))) (some ((0 : Int), d)) = some (r, d') ∧ (if b then regB c r else r == 0) = true := by
    intro b d
    cases b with
    | false => exact ⟨0, d, rfl, rfl⟩
    | true =>
      obtain ⟨r, d', e, h4, h5⟩ := next_ok ⟨d⟩ (m := c.Regs) h0 (by omega)
      exact ⟨r, d'.N, by rw [e]; rfl, regB_iff.2 ⟨h4, h5⟩⟩
  obtain ⟨A, dA, eA, hA⟩ := reg (x.1.Form != 1) d11.N
  obtain ⟨B, dB, eB, hB⟩ := reg (((x.1.Form == 3) || (x.1.Form == 4)) || (x.1.Form == 7)) dA
  obtain ⟨C, dC, eC, hC⟩ := reg (x.1.Form == 4) dB
  simp only [eA, eB, eC, Option.bind_some]
  rw [hx, f2] at hA
  have hB : (if fB (fm op) then regB c B else B == 0) = true := by rw [hx] at hB; exact hB
  have hC : (if fC (fm op) then regB c C else C == 0) = true := by rw [hx] at hC; exact hC
  -- the rest
  have fin : ∀ (ag : List Int) (N : Int), ag.length ≤ 2 → (∀ x, x ∈ ag → regB c x = true) → (op ≠ 6 → ag = []) → ((fN (fm op)) = false → N = 0) → numB c ⟨op, A, B, C, N⟩ = true → insB c ⟨⟨op, A, B, C, N⟩, ag⟩ = true := by
    intro ag N g1 g2 g3 g4 g5
    unfold insB
    have c1 : (((!(alw op)) || (decide ((ag.length : Int) > 6))) || ((op != 6) && (decide ((ag.length : Int) > 0)))) = false := by
      rw [ha]
      by_cases h6 : op = 6
      · simp [h6]; omega
      · rw [g3 h6]; simp
    have c2 : ag.all (regB c) = true := List.all_eq_true.2 g2
    have gen : ∀ a b e : Bool, (if a then b else e) = true → (a && !b) = false ∧ ((!a) && !e) = false := by decide
    have A1 := gen _ _ _ hA
    have B1 := gen _ _ _ hB
    have C1 := gen _ _ _ hC
    have N1 : ((!(fN (fm op))) && (N != 0)) = false := by
      cases hf : fN (fm op) with
      | true => rfl
      | false => rw [g4 hf]; rfl
    simp only [c1, c2, A1.1, B1.1, C1.1, N1]
    have e1 : ((!(fA (fm op))) && (A != 0)) = false := A1.2
    have e2 : ((!(fB (fm op))) && (B != 0)) = false := B1.2
    have e3 : ((!(fC (fm op))) && (C != 0)) = false := C1.2
    simp only [e1, e2, e3]
    simpa using g5
  have nB : ∀ N, op ≠ 33 → op ≠ 6 → op ≠ 34 → op ≠ 35 → numB c ⟨op, A, B, C, N⟩ = true := fun N q1 q2 q3 q4 => by
    unfold numB
    simp [q1, q2, q3, q4, h38]
  by_cases h13 : op = 13
  · obtain ⟨r, d, e, _, _⟩ := next_ok ⟨dC⟩ (m := 400) (by omega) (by omega)
    obtain ⟨w, ew⟩ := word_ok r n
    refine ⟨⟨⟨op, A, B, C, w⟩, []⟩, Ev.bind (x := (([] : List Int), w, d.N)) (Ev.t (by simp [h13]) (Ev.bindO e (Ev.bindO ew (Ev.some _)))) (Ev.some _), fin [] w (by simp) (by simp) (fun _ => rfl) (fun hf => ?_) (nB w (by omega) (by omega) (by omega) (by omega))⟩
    rw [f3, h13] at hf; cases hf
  by_cases h33 : op = 33
  · obtain ⟨r, d, e, q1, q2⟩ := next_ok ⟨dC⟩ (m := 9) (by omega) (by omega)
    have hw : w64 (r - 4) = r - 4 := w64_id (by omega) (by omega)
    refine ⟨⟨⟨op, A, B, C, r - 4⟩, []⟩, Ev.bind (x := (([] : List Int), r - 4, d.N)) (Ev.f (by simp [h13]) (Ev.t (by simp [h33]) (Ev.bindO e ((Ev.some _).cast (by simp only [hw]))))) (Ev.some _), fin [] _ (by simp) (by simp) (fun _ => rfl) (fun hf => ?_) ?_⟩
    · rw [f3, h33] at hf; cases hf
    · subst h33; unfold numB; simp; omega
  by_cases h34 : op = 34 ∨ op = 35
  · obtain ⟨r, d, e, q1, q2⟩ := next_ok ⟨dC⟩ (m := 2) (by omega) (by omega)
    have hb : Ev (fun K k => cnd (op == 34) (some (op == 34)) (some (op == 35))) true := by
      rcases h34 with rfl | rfl
      · exact Ev.t rfl ((Ev.some _).cast rfl)
      · exact Ev.f rfl ((Ev.some _).cast rfl)
    refine ⟨⟨⟨op, A, B, C, r⟩, []⟩, Ev.bind (x := (([] : List Int), r, d.N)) (Ev.f (by simp [h13]) (Ev.f (by simp [h33]) (Ev.bind hb (Ev.t rfl (Ev.bindO e (Ev.some _)))))) (Ev.some _), fin [] _ (by simp) (by simp) (fun _ => rfl) (fun hf => ?_) ?_⟩
    · rw [f3] at hf; rcases h34 with rfl | rfl <;> cases hf
    · rcases h34 with rfl | rfl
      · unfold numB; simp; omega
      · unfold numB; simp; omega
  have h34' : op ≠ 34 ∧ op ≠ 35 := ⟨fun e => h34 (.inl e), fun e => h34 (.inr e)⟩
  have hb : Ev (fun K k => cnd (op == 34) (some (op == 34)) (some (op == 35))) false := Ev.f (by simp [h34'.1]) ((Ev.some _).cast (by simp [h34'.2]))
  by_cases h6 : op = 6
  · obtain ⟨r, d, e, q1, q2⟩ := next_ok ⟨dC⟩ (m := 2) (by omega) (by omega)
    obtain ⟨d2, ag, e2, g1, g2⟩ := ev_vinstr_l1 h0 h1 (2 - r).toNat d.N [] (by simp; omega) (by simp)
    have hw : w64 (2 - r) = ((2 - r).toNat : Int) := by rw [w64_id (by omega) (by omega)]; omega
    refine ⟨⟨⟨op, A, B, C, r⟩, ag⟩, Ev.bind (x := (ag, r, d2)) (Ev.f (by simp [h13]) (Ev.f (by simp [h33]) (Ev.bind hb (Ev.f rfl (Ev.t (by simp [h6]) (Ev.bindO e ?_)))))) (Ev.some _), fin ag r g1 g2 (fun hc => absurd h6 hc) (fun hf => ?_) ?_⟩
    · simp only [hw]
      exact Ev.bind (Ev.loop e2) (Ev.some _)
    · rw [f3, h6] at hf; cases hf
    · subst h6; unfold numB; simp; omega
  · refine ⟨⟨⟨op, A, B, C, 0⟩, []⟩, Ev.bind (x := (([] : List Int), (0 : Int), dC)) (Ev.f (by simp [h13]) (Ev.f (by simp [h33]) (Ev.bind hb (Ev.f rfl (Ev.f (by simp [h6]) (Ev.some _)))))) (Ev.some _), fin [] 0 (by simp) (by simp) (fun _ => rfl) (fun _ => rfl) (nB 0 h33 h6 h34'.1 h34'.2)⟩

/-! ### The function -/
def iv0 (p : Int) (r : Nat) : VInstr := ⟨⟨if (r : Int) < p then 38 else 13, r, 0, 0, r⟩, []⟩
/-- Block 0: every register gets its value. -/
def firstB (p : Int) (R : Nat) : Block := ⟨(List.range R).map (iv0 p), 1, 0, 1, 0⟩
structure BlkV (p R : Int) (M : Nat) (b : Block) : Prop where
  i : ∀ v, v ∈ b.Instrs → insB ⟨p, R, []⟩ v = true
  n : b.Instrs.length ≤ 5
  e : (b.End = 1 ∧ 1 ≤ b.Target ∧ b.Target ≤ M ∧ b.Reg = 0 ∧ b.Else = 0) ∨ (b.End = 2 ∧ 1 ≤ b.Target ∧ b.Target ≤ M ∧ 1 ≤ b.Else ∧ b.Else ≤ M ∧ 0 ≤ b.Reg ∧ b.Reg < R) ∨ (b.End = 3 ∧ 0 ≤ b.Reg ∧ b.Reg < R ∧ b.Target = 0 ∧ b.Else = 0) ∨ (b.End = 4 ∧ 1 ≤ b.Target ∧ b.Target ≤ 9 ∧ b.Reg = 0 ∧ b.Else = 0)
/-- What is known of a generated function. -/
structure VF (p : Int) (c : VFunc) : Prop where
  p0 : 0 ≤ p
  p2 : p ≤ 2
  hp : c.Params = p
  hr : c.Regs = 9 + p
  hb : ∃ (M : Nat) (bs : List Block), c.Blocks = firstB p (9 + p.toNat) :: bs ∧ bs.length = M ∧ 1 ≤ M ∧ M ≤ 6 ∧ ∀ b, b ∈ bs → BlkV p (9 + p) M b
theorem ev_vfunc_l1 {p : Int} (h0 : 0 ≤ p) (h2 : p ≤ 2) : Ev (fun K k => keep2_VFunc_l1 K p k (0, 9)) (9 + p) := by
  have h : p = 0 ∨ p = 1 ∨ p = 2 := by omega
  rcases h with rfl | rfl | rfl
  · exact Ev.step (fun K k => rfl) (Ev.f rfl (Ev.some _))
  · exact Ev.step (fun K k => rfl) (Ev.t rfl (Ev.step (fun K k => rfl) (Ev.f rfl (Ev.some _))))
  · exact Ev.step (fun K k => rfl) (Ev.t rfl (Ev.step (fun K k => rfl) (Ev.t rfl (Ev.step (fun K k => rfl) (Ev.f rfl (Ev.some _))))))
theorem ev_vfunc_l2 {p : Int} (h0 : 0 ≤ p) (h2 : p ≤ 2) : ∀ (n j : Nat), j + n = 9 + p.toNat → Ev (fun K k => keep2_VFunc_l2 K p (9 + p) k ((j : Int), (List.range j).map (iv0 p))) (firstB p (9 + p.toNat)).Instrs := by
  intro n
  induction n with
  | zero =>
    intro j hj
    refine Ev.step (fun K k => rfl) (Ev.f (by simp; omega) ((Ev.some _).cast ?_))
    rw [show 9 + p.toNat = j by omega]; rfl
  | succ n ih =>
    intro j hj
    have hw : w64 ((j : Int) + 1) = ((j + 1 : Nat) : Int) := by rw [w64_id (by omega) (by omega)]; simp
    refine Ev.step (fun K k => rfl) (Ev.t (by simp; omega) (Ev.bind (x := if (j : Int) < p then 38 else 13) ?_ (Ev.bindO (app_eq (by simp; omega) (by simp; omega)) ?_)))
    · by_cases h : (j : Int) < p
      · rw [if_pos h]; exact Ev.t (by simpa using h) (Ev.some _)
      · rw [if_neg h]; exact Ev.f (by simpa using h) (Ev.some _)
    · simp only [hw]
      have := ih (j + 1) (by omega)
      rw [List.range_succ, List.map_append] at this
      exact this
theorem ev_vfunc_l4 {l : List Int} (hl : l.length ≤ 36) {p : Int} (h0 : 0 ≤ p) (h2 : p ≤ 2) {s : Int × List Block} {b : Nat} (hs : s.1 = (b : Int)) (hb : b ≤ 6) : ∀ (n j : Nat) (is : List VInstr), j + n = 5 → is.length = j → (∀ v, v ∈ is → insB ⟨p, 9 + p, []⟩ v = true) →
    ∃ is', Ev (fun K k => keep2_VFunc_l4 K l p (9 + p) s k ((j : Int), is)) is' ∧ is'.length ≤ 5 ∧ ∀ v, v ∈ is' → insB ⟨p, 9 + p, []⟩ v = true := by
  intro n
  induction n with
  | zero =>
    intro j is hj hi hv
    refine ⟨is, Ev.step (fun K k => rfl) (Ev.f ?_ (Ev.some _)), by omega, hv⟩
    have : decide ((j : Int) < 5) = false := by simp; omega
    simp only [this, Bool.false_and]
  | succ n ih =>
    intro j is hj hi hv
    have hw : w64 ((j : Int) + 1) = ((j + 1 : Nat) : Int) := by rw [w64_id (by omega) (by omega)]; simp
    have hw2 : w64 (w64 (6 * s.1) + (j : Int)) = ((6 * b + j : Nat) : Int) := by
      rw [hs, w64_id (n := 6 * (b : Int)) (by omega) (by omega), w64_id (by omega) (by omega)]; simp
    have h5 : decide ((j : Int) < 5) = true := by simp; omega
    rcases Nat.lt_or_ge (6 * b + j) l.length with q | q
    · obtain ⟨v, ev, hvv⟩ := ev_vinstr (c := ⟨p, 9 + p, []⟩) (by show 0 < 9 + p; omega) (by show 9 + p ≤ 3000; omega) l[6 * b + j]
      obtain ⟨is', e, h6⟩ := ih (j + 1) (is ++ [v]) (by omega) (by simp [hi]) fun w hw => by
        rcases List.mem_append.1 hw with q | q
        · exact hv w q
        · rw [List.mem_singleton.1 q]; exact hvv
      refine ⟨is', Ev.step (fun K k => rfl) (Ev.t ?_ ?_), h6⟩
      · simp only [h5, hw2, Bool.true_and, decide_eq_true_eq]; omega
      · simp only [hw2, hw]
        exact Ev.bindO (idx_get q) (Ev.bind ev (Ev.bindO (app_eq (by simp; omega) (by simp; omega)) e))
    · refine ⟨is, Ev.step (fun K k => rfl) (Ev.f ?_ (Ev.some _)), by omega, hv⟩
      simp only [h5, hw2, Bool.true_and, decide_eq_false_iff_not]; omega
theorem ev_vfunc_l3 {l : List Int} (hl : l.length ≤ 36) {p : Int} (h0 : 0 ≤ p) (h2 : p ≤ 2) {M : Nat} (hM : M ≤ 6) (hm : (w64 (1 + (if 5 < (w64 (Int.tdiv (l.length : Int) 6)) then 5 else (w64 (Int.tdiv (l.length : Int) 6))))) = (M : Int)) : ∀ (n j : Nat) (f : Block) (bs : List Block), j + n = M → bs.length = j → (∀ b, b ∈ bs → BlkV p (9 + p) M b) →
    ∃ bs', Ev (fun K k => keep2_VFunc_l3 K l p (9 + p) k ((j : Int), f :: bs)) (f :: bs') ∧ bs'.length = M ∧ ∀ b, b ∈ bs' → BlkV p (9 + p) M b := by
  intro n
  induction n with
  | zero =>
    intro j f bs hj hi hv
    refine ⟨bs, Ev.step (fun K k => rfl) (Ev.f ?_ (Ev.some _)), by omega, hv⟩
    rw [hm]; simp; omega
  | succ n ih =>
    intro j f bs hj hi hv
    have hw : w64 ((j : Int) + 1) = ((j + 1 : Nat) : Int) := by rw [w64_id (by omega) (by omega)]; simp
    obtain ⟨is, e1, g1, g2⟩ := ev_vfunc_l4 hl h0 h2 (s := ((j : Int), f :: bs)) (b := j) rfl (by omega) 5 0 [] (by omega) rfl (by simp)
    have hnum : ∃ d, Ev (fun (K k : Nat) => (cnd (decide ((w64 ((w64 (6 * (j : Int))) + 5)) < (l.length : Int))) (Option.bind (idx l (w64 ((w64 (6 * (j : Int))) + 5))) (fun y65 => (some y65))) (some 0))) d := by
      have hw2 : w64 (w64 (6 * (j : Int)) + 5) = ((6 * j + 5 : Nat) : Int) := by
        rw [w64_id (n := 6 * (j : Int)) (by omega) (by omega), w64_id (by omega) (by omega)]; simp
      simp only [hw2]
      rcases Nat.lt_or_ge (6 * j + 5) l.length with q | q
      · exact ⟨_, Ev.t (by simp; omega) (Ev.bindO (idx_get q) (Ev.some _))⟩
      · exact ⟨0, Ev.f (by simp; omega) (Ev.some _)⟩
    obtain ⟨d, e2⟩ := hnum
    obtain ⟨r73, d73, e73, q1, q2⟩ := next_ok ⟨d⟩ (m := 6) (by omega) (by omega)
    -- how the block ends
    have hend : ∃ (dn E R T L : Int), Ev (fun (K k : Nat) => Option.bind (keep2_Digits_Next (⟨d⟩ : Fullingkeep2Digits) 6) (fun r73 => (cnd (r73.1 == 0) (Option.bind (keep2_Digits_Next r73.2 (w64 (1 + (if 5 < (w64 (Int.tdiv (l.length : Int) 6)) then 5 else (w64 (Int.tdiv (l.length : Int) 6)))))) (fun r76 => (some (r76.2.N, 1, 0, (w64 (1 + r76.1)), 0)))) (cnd (r73.1 == 1) (Option.bind (keep2_Digits_Next r73.2 9) (fun r79 => (some (r79.2.N, 4, 0, (w64 (1 + r79.1)), 0)))) (cnd (r73.1 == 2) (Option.bind (keep2_Digits_Next r73.2 (9 + p)) (fun r82 => (some (r82.2.N, 3, r82.1, 0, 0)))) (Option.bind (keep2_Digits_Next r73.2 (9 + p)) (fun r84 => (Option.bind (keep2_Digits_Next r84.2 (w64 (1 + (if 5 < (w64 (Int.tdiv (l.length : Int) 6)) then 5 else (w64 (Int.tdiv (l.length : Int) 6)))))) (fun r86 => (Option.bind (keep2_Digits_Next r86.2 (w64 (1 + (if 5 < (w64 (Int.tdiv (l.length : Int) 6)) then 5 else (w64 (Int.tdiv (l.length : Int) 6)))))) (fun r88 => (some (r88.2.N, 2, r84.1, (w64 (1 + r86.1)), (w64 (1 + r88.1)))))))))))))))
        (dn, E, R, T, L) ∧ ((E = 1 ∧ 1 ≤ T ∧ T ≤ M ∧ R = 0 ∧ L = 0) ∨ (E = 2 ∧ 1 ≤ T ∧ T ≤ M ∧ 1 ≤ L ∧ L ≤ M ∧ 0 ≤ R ∧ R < 9 + p) ∨ (E = 3 ∧ 0 ≤ R ∧ R < 9 + p ∧ T = 0 ∧ L = 0) ∨ (E = 4 ∧ 1 ≤ T ∧ T ≤ 9 ∧ R = 0 ∧ L = 0)) := by
      simp only [hm]
      have hM0 : 0 < (M : Int) := by omega
      by_cases z0 : r73 = 0
      · obtain ⟨r, d', e, a1, a2⟩ := next_ok d73 (m := (M : Int)) hM0 (by omega)
        have hw3 : w64 (1 + r) = 1 + r := w64_id (by omega) (by omega)
        exact ⟨_, _, _, _, _, Ev.bindO e73 (Ev.t (by simp [z0]) (Ev.bindO e (Ev.some _))), .inl ⟨rfl, by rw [hw3]; omega, by rw [hw3]; omega, rfl, rfl⟩⟩
      by_cases z1 : r73 = 1
      · obtain ⟨r, d', e, a1, a2⟩ := next_ok d73 (m := 9) (by omega) (by omega)
        have hw3 : w64 (1 + r) = 1 + r := w64_id (by omega) (by omega)
        exact ⟨_, _, _, _, _, Ev.bindO e73 (Ev.f (by simp [z0]) (Ev.t (by simp [z1]) (Ev.bindO e (Ev.some _)))), .inr (.inr (.inr ⟨rfl, by rw [hw3]; omega, by rw [hw3]; omega, rfl, rfl⟩))⟩
      by_cases z2 : r73 = 2
      · obtain ⟨r, d', e, a1, a2⟩ := next_ok d73 (m := 9 + p) (by omega) (by omega)
        exact ⟨_, _, _, _, _, Ev.bindO e73 (Ev.f (by simp [z0]) (Ev.f (by simp [z1]) (Ev.t (by simp [z2]) (Ev.bindO e (Ev.some _))))), .inr (.inr (.inl ⟨rfl, a1, a2, rfl, rfl⟩))⟩
      · obtain ⟨r, d', e, a1, a2⟩ := next_ok d73 (m := 9 + p) (by omega) (by omega)
        obtain ⟨r2, d2, e2, b1, b2⟩ := next_ok d' (m := (M : Int)) hM0 (by omega)
        obtain ⟨r3, d3, e3, c1, c2⟩ := next_ok d2 (m := (M : Int)) hM0 (by omega)
        have hw3 : w64 (1 + r2) = 1 + r2 := w64_id (by omega) (by omega)
        have hw4 : w64 (1 + r3) = 1 + r3 := w64_id (by omega) (by omega)
        exact ⟨_, _, _, _, _, Ev.bindO e73 (Ev.f (by simp [z0]) (Ev.f (by simp [z1]) (Ev.f (by simp [z2]) (Ev.bindO e (Ev.bindO e2 (Ev.bindO e3 (Ev.some _))))))), .inr (.inl ⟨rfl, by rw [hw3]; omega, by rw [hw3]; omega, by rw [hw4]; omega, by rw [hw4]; omega, a1, a2⟩)⟩
    obtain ⟨dn, E, R, T, L, e3, hE⟩ := hend
    have hlast : ∃ (E' R' T' : Int), Ev (fun (K k : Nat) => (cnd (((j : Int) == (w64 ((w64 (1 + (if 5 < (w64 (Int.tdiv (l.length : Int) 6)) then 5 else (w64 (Int.tdiv (l.length : Int) 6))))) - 1))) && (E == 1)) (some ((3 : Int), (0 : Int), (0 : Int))) (some (E, R, T)))) (E', R', T') ∧ BlkV p (9 + p) M ⟨is, E', R', T', L⟩ := by
      generalize ((j : Int) == (w64 ((w64 (1 + (if 5 < (w64 (Int.tdiv (l.length : Int) 6)) then 5 else (w64 (Int.tdiv (l.length : Int) 6))))) - 1))) = bb
      cases bb with
      | false => exact ⟨E, R, T, Ev.f rfl (Ev.some _), g2, g1, hE⟩
      | true =>
        by_cases h1 : E = 1
        · have hL : L = 0 := by
            rcases hE with h | h | h | h
            · exact h.2.2.2.2
            · exact absurd (h.1.symm.trans h1) (by decide)
            · exact absurd (h.1.symm.trans h1) (by decide)
            · exact absurd (h.1.symm.trans h1) (by decide)
          exact ⟨3, 0, 0, Ev.t (by simp [h1]) (Ev.some _), g2, g1, .inr (.inr (.inl ⟨rfl, Int.le_refl 0, by show (0 : Int) < 9 + p; omega, rfl, hL⟩))⟩
        · exact ⟨E, R, T, Ev.f (by simp [h1]) (Ev.some _), g2, g1, hE⟩
    obtain ⟨E', R', T', e4, hB⟩ := hlast
    obtain ⟨bs', e5, h5⟩ := ih (j + 1) f (bs ++ [⟨is, E', R', T', L⟩]) (by omega) (by simp [hi]) fun b hb => by
      rcases List.mem_append.1 hb with q | q
      · exact hv b q
      · rw [List.mem_singleton.1 q]; exact hB
    refine ⟨bs', Ev.step (fun K k => rfl) (Ev.t ?_ ?_), h5⟩
    · rw [hm]; simp; omega
    · refine Ev.bind (Ev.loop e1) (Ev.bind e2 (Ev.bind e3 (Ev.bind e4 (Ev.bindO (app_eq (by simp; omega) (by simp; omega)) ?_))))
      simp only [hw]; exact e5
theorem ev_vfunc {l : List Int} (hl : l.length ≤ 36) {p : Int} (h0 : 0 ≤ p) (h2 : p ≤ 2) : ∃ c, Ev (fun K _ => keep2_VFunc K l p) c ∧ VF p c := by
  have hm : (w64 (1 + (if 5 < (w64 (Int.tdiv (l.length : Int) 6)) then 5 else (w64 (Int.tdiv (l.length : Int) 6))))) = ((1 + min (l.length / 6) 5 : Nat) : Int) := by
    rw [Int.tdiv_eq_ediv_of_nonneg (by omega), w64_id (n := (l.length : Int) / 6) (by omega) (by omega)]
    split
    · rw [w64_id (by omega) (by omega)]; omega
    · rw [w64_id (by omega) (by omega)]; omega
  obtain ⟨bs, e, h3, h4⟩ := ev_vfunc_l3 hl h0 h2 (M := 1 + min (l.length / 6) 5) (by omega) hm (1 + min (l.length / 6) 5) 0 (firstB p (9 + p.toNat)) [] (Nat.zero_add _) rfl (by simp)
  refine ⟨⟨p, 9 + p, firstB p (9 + p.toNat) :: bs⟩, ?_, ⟨h0, h2, rfl, rfl, _, bs, rfl, h3, by omega, by omega, h4⟩⟩
  unfold keep2_VFunc
  refine Ev.bind (Ev.loop (ev_vfunc_l1 h0 h2)) (Ev.bind (Ev.loop (ev_vfunc_l2 h0 h2 (9 + p.toNat) 0 (Nat.zero_add _))) (Ev.bindO (app_eq (by simp) (by simp)) (Ev.bind (Ev.loop e) (Ev.some _))))
end Go.Proofs.YtocfnpnnbmicmaaDoor.Tc
