/- What an operation reads and writes: the program's table and the reference's agree; what a terminator goes to. -/
import Derived.Test.YtocfnpnnbmicmaaDoorP1Rc
set_option linter.unusedVariables false
set_option linter.unusedSimpArgs false
set_option maxRecDepth 20000
namespace Go.Proofs.YtocfnpnnbmicmaaDoor.Tc
open Go

def info0 : OpInfo := ⟨⟨#[]⟩, 0, false, false, false, false, 0⟩
/-- The table's row of an operation. -/
def opI (op : Int) : OpInfo := if 1 ≤ op ∧ op ≤ 37 then (tableL[(op - 1).toNat]?).getD info0 else info0
theorem table_len : tableL.length = 37 := by unfold tableL; rfl
theorem machine_info (op : Int) : machine_Info op = some (opI op, decide (1 ≤ op ∧ op ≤ 37)) := by
  unfold machine_Info opI
  by_cases h : 1 ≤ op ∧ op ≤ 37
  · have h1 : (decide (op < 1) || decide (op > 37)) = false := by simp; omega
    have h2 : w64 (op - 1) = ((op - 1).toNat : Int) := by rw [w64_id (by omega) (by omega)]; omega
    have h3 : (op - 1).toNat < tableL.length := by rw [table_len]; omega
    rw [h1, h2, idx_get h3]
    simp only [cnd, h, and_self, if_true, Option.bind_some, List.getElem?_eq_getElem h3, Option.getD_some, decide_true]
  · have h1 : (decide (op < 1) || decide (op > 37)) = true := by simp; omega
    rw [h1]
    simp only [cnd, h, if_false, info0, decide_false]
def alw (op : Int) : Bool := (op == 3) || (op == 6) || (op == 9) || (op == 10) || (op == 11) || (op == 12) || (op == 13) || (op == 33) || (op == 34) || (op == 35) || (op == 38) || (decide (op ≥ 15) && decide (op ≤ 32))
theorem vallowed (op : Int) : vcode_allowed op = some (alw op) := by
  unfold vcode_allowed alw
  generalize (op == 3) = b1; generalize (op == 6) = b2; generalize (op == 9) = b3; generalize (op == 10) = b4; generalize (op == 11) = b5; generalize (op == 12) = b6; generalize (op == 13) = b7
  generalize (op == 33) = b8; generalize (op == 34) = b9; generalize (op == 35) = b10; generalize (op == 38) = b11; generalize (decide (op ≥ 15) && decide (op ≤ 32)) = b12
  revert b1 b2 b3 b4 b5 b6 b7 b8 b9 b10 b11 b12
  decide +kernel
theorem rallowed (op : Int) : ref32_allowed op = some (alw op) := vallowed op
/-- The operations that virtual code may hold. -/
def opsL : List Int := [3, 6, 9, 10, 11, 12, 13, 15, 16, 17, 18, 19, 20, 21, 22, 23, 24, 25, 26, 27, 28, 29, 30, 31, 32, 33, 34, 35, 38]
theorem alw_mem {op : Int} (h : alw op = true) : op ∈ opsL := by
  simp only [alw, Bool.or_eq_true, beq_iff_eq, Bool.and_eq_true, decide_eq_true_eq] at h
  simp only [opsL, List.mem_cons, List.not_mem_nil, or_false]
  omega
/-- The reference's table. -/
def refI (op : Int) : OpInfo := if op == 38 then ⟨⟨#[]⟩, 5, false, true, false, false, 0⟩ else opI op
theorem ref_all : opsL.all (fun op => decide (ref32_info op = some (refI op))) = true := by kernel_rfl
theorem ref_info {op : Int} (h : alw op = true) : ref32_info op = some (refI op) := of_decide_eq_true (List.all_eq_true.1 ref_all op (alw_mem h))
/-- What the two tables say of the same operation. -/
theorem info_all : opsL.all (fun op => ((refI op).ReadsA == (opI op).ReadsA) && ((refI op).ReadsB == (opI op).ReadsB) && (((refI op).Form == 4) == ((op == 11) || (op == 12))) && (((refI op).WritesA || (op == 6)) == ((opI op).WritesA || (op == 6) || (op == 38)))) = true := by kernel_rfl
theorem info_eq {op : Int} (h : alw op = true) : (refI op).ReadsA = (opI op).ReadsA ∧ (refI op).ReadsB = (opI op).ReadsB ∧ ((refI op).Form == 4) = ((op == 11) || (op == 12)) ∧ ((refI op).WritesA || (op == 6)) = ((opI op).WritesA || (op == 6) || (op == 38)) := by
  have := List.all_eq_true.1 info_all op (alw_mem h)
  simp only [Bool.and_eq_true, beq_iff_eq] at this
  exact ⟨this.1.1.1, this.1.1.2, this.1.2, this.2⟩

/-- The registers that v reads, as they come. -/
def rdRaw (v : VInstr) : List Int := (if (opI v.Instr.Op).ReadsA then [v.Instr.A] else []) ++ (if (opI v.Instr.Op).ReadsB then [v.Instr.B] else []) ++ (if (v.Instr.Op == 11) || (v.Instr.Op == 12) then [v.Instr.C] else []) ++ (if v.Instr.Op == 6 then v.Args else [])
def rd (v : VInstr) : List Int := if alw v.Instr.Op then uni [] (rdRaw v) else []
def wr (v : VInstr) : List Int := if alw v.Instr.Op && ((opI v.Instr.Op).WritesA || (v.Instr.Op == 6) || (v.Instr.Op == 38)) then [v.Instr.A] else []
def su (b : Block) : List Int := if b.End == 1 then [b.Target] else if b.End == 2 then ins [b.Target] b.Else else []
def er (b : Block) : List Int := if (b.End == 2) || (b.End == 3) then [b.Reg] else []
theorem srt_nil : Srt [] := List.Pairwise.nil
theorem srt_rd (v : VInstr) : Srt (rd v) := by unfold rd; split; exact srt_uni srt_nil; exact srt_nil

theorem vwrites (v : VInstr) : vcode_Writes v = some (wr v) := by
  unfold vcode_Writes wr
  rw [vallowed, machine_info]
  cases h : alw v.Instr.Op with
  | false => simp [cnd]
  | true => simp only [Option.bind_some, Bool.not_true, cnd, Bool.true_and]; cases ((opI v.Instr.Op).WritesA || (v.Instr.Op == 6) || (v.Instr.Op == 38)) <;> simp
theorem rwrites (v : VInstr) : ref32_Writes v = some (wr v) := by
  unfold ref32_Writes wr
  rw [rallowed]
  cases h : alw v.Instr.Op with
  | false => simp [cnd]
  | true =>
    simp only [Option.bind_some, cnd, Bool.true_and, ref_info h, (info_eq h).2.2.2]
    cases ((opI v.Instr.Op).WritesA || (v.Instr.Op == 6) || (v.Instr.Op == 38)) <;> simp

/-! ### unique -/
theorem list_1' {α : Type} {l : List α} (h : l.length = 1) : ∃ a, l = [a] := by match l, h with | [a], _ => exact ⟨a, rfl⟩
theorem tw_get {l : List Int} {x : Int} {i : Nat} (h : i < tw l x) : ∃ y, l[i]? = some y ∧ y < x := by
  induction l generalizing i with
  | nil => simp [tw] at h
  | cons y l ih =>
    by_cases hy : y < x
    · have e : tw (y :: l) x = tw l x + 1 := by simp [tw, List.takeWhile_cons, hy]
      cases i with
      | zero => exact ⟨y, rfl, hy⟩
      | succ i => rw [e] at h; obtain ⟨z, hz, hz2⟩ := ih (i := i) (by omega); exact ⟨z, by simpa using hz, hz2⟩
    · have e : tw (y :: l) x = 0 := by simp [tw, List.takeWhile_cons, hy]
      omega
theorem tw_ge {l : List Int} {x : Int} (hs : Srt l) {i : Nat} (h : tw l x ≤ i) {y : Int} (hy : l[i]? = some y) : x ≤ y := by
  induction l generalizing i with
  | nil => simp at hy
  | cons z l ih =>
    have h1 := List.pairwise_cons.1 hs
    by_cases hz : z < x
    · have e : tw (z :: l) x = tw l x + 1 := by simp [tw, List.takeWhile_cons, hz]
      cases i with
      | zero => omega
      | succ i => exact ih h1.2 (i := i) (by omega) (by simpa using hy)
    · cases i with
      | zero => simp at hy; omega
      | succ i =>
        have := h1.1 y (List.mem_of_getElem? (show l[i]? = some y by simpa using hy))
        omega
theorem unique_l2 (K : Nat) {c : Int} {s : List Int} {x : Int} (hs : Srt s) (hl : Sm s) : ∀ (i k : Nat), i ≤ s.length → tw s x ≤ i → i < k → vcode_unique_l2 K (c, s) x k (i : Int) = some ((tw s x : Nat) : Int) := by
  intro i
  induction i with
  | zero =>
    intro k h1 h2 hk
    obtain ⟨k, rfl⟩ : ∃ j, k = j + 1 := ⟨k - 1, by omega⟩
    have : tw s x = 0 := by omega
    simp [vcode_unique_l2, cnd, this]
  | succ i ih =>
    intro k h1 h2 hk
    obtain ⟨k, rfl⟩ : ∃ j, k = j + 1 := ⟨k - 1, by omega⟩
    have hw : w64 (((i + 1 : Nat) : Int) - 1) = (i : Int) := by rw [w64_id (by omega) (by omega)]; omega
    have hlt : i < s.length := by omega
    have hpos : ((i + 1 : Nat) : Int) > 0 := by omega
    simp only [vcode_unique_l2, hpos, decide_true, cnd, hw, idx_get hlt, Option.bind_some]
    by_cases hy : s[i] ≥ x
    · simp only [hy, decide_true]
      refine ih k (by omega) ?_ (by omega)
      rcases Nat.lt_or_ge i (tw s x) with q | q
      · obtain ⟨y, hy1, hy2⟩ := tw_get q
        rw [List.getElem?_eq_getElem hlt] at hy1; cases hy1; omega
      · exact q
    · simp only [hy, decide_false]
      have : tw s x = i + 1 := by
        rcases Nat.lt_or_ge i (tw s x) with q | q
        · omega
        · exact absurd (tw_ge hs q (List.getElem?_eq_getElem hlt)) (by omega)
      rw [this]
theorem cpy_ins (s : List Int) (x : Int) (k : Nat) (h : k ≤ s.length) : (cpy (s ++ [0]) (k + 1) k).set k x = s.take k ++ [x] ++ s.drop k := by
  have h1 : (s.take k).length = k := by simp; omega
  unfold cpy
  have e1 : min ((s ++ [0]).length - k) ((s ++ [0]).length - (k + 1)) = s.length - k := by simp; omega
  rw [e1]
  have e2 : (s ++ [0]).drop (k + 1 + (s.length - k)) = [] := List.drop_eq_nil_of_le (by simp; omega)
  have e3 : ((s ++ [0]).drop k).take (s.length - k) = s.drop k := by
    rw [List.drop_append_of_le_length h, List.take_append_of_le_length (by simp), List.take_of_length_le (by simp)]
  have e4 : (s ++ [0]).take (k + 1) = s.take k ++ ((s ++ [0]).drop k).take 1 := by
    rw [List.take_add, List.take_append_of_le_length h]
  rw [e2, e3, e4, List.append_nil]
  have h5 : (((s ++ [0]).drop k).take 1).length = 1 := by simp; omega
  obtain ⟨z, hz⟩ := list_1' h5
  rw [hz]
  rw [List.append_assoc, List.set_append_right _ _ (by omega), h1]
  simp

theorem unique_l1 {a : List Int} (ha : Sm a) : ∀ (m p s : List Int), a = p ++ m → Srt s → s.length + m.length ≤ 17592186044000 → Ev (fun K k => vcode_unique_l1 K a k ((p.length : Int), s)) (m.foldl ins s) := by
  intro m
  induction m with
  | nil =>
    intro p s h _ _
    refine Ev.step (fun K k => rfl) (Ev.f ?_ (Ev.some _))
    subst h; simp
  | cons y m ih =>
    intro p s h hs hl
    have hg : idx a (p.length : Int) = some y := idx_eq (by subst h; simp)
    have hlt : (p.length : Int) < (a.length : Int) := by subst h; simp; omega
    have hw : w64 ((p.length : Int) + 1) = ((p ++ [y]).length : Int) := by
      rw [w64_id (by omega) (by omega)]; simp
    simp only [List.length_cons] at hl
    have htl := tw_le s y
    have hln := len_ins s y
    refine Ev.step (fun K k => rfl) (Ev.t (by simpa using hlt) (Ev.bind (x := ins s y) (Ev.bindO hg ?_) ?_))
    · refine Ev.bind (x := ((tw s y : Nat) : Int)) ⟨s.length + 1, fun K k hK _ => unique_l2 K hs (by omega) s.length K (Nat.le_refl _) htl (by omega)⟩ ?_
      refine Ev.bind (x := decide (s[tw s y]? = some y)) ?_ ?_
      · refine Ev.cnd (fun h => ?_) (fun h => ?_)
        · have hlt : tw s y < s.length := by simpa using h
          refine Ev.bindO (idx_get hlt) ((Ev.some _).cast ?_)
          rw [Bool.eq_iff_iff]; simp [List.getElem?_eq_getElem hlt]
        · refine (Ev.some _).cast ?_
          have : s[tw s y]? = none := List.getElem?_eq_none (by simpa using h)
          simp [this]
      · rw [ins_tw]
        refine Ev.cnd (fun h => (Ev.some _).cast (by rw [if_pos (of_decide_eq_true h)])) (fun h => ?_)
        rw [if_neg (of_decide_eq_false h)]
        have hw2 : w64 (((tw s y : Nat) : Int) + 1) = ((tw s y + 1 : Nat) : Int) := by rw [w64_id (by omega) (by omega)]; simp
        have hlen : (s ++ [(0 : Int)]).length = s.length + 1 := by simp
        refine Ev.bindO (app_eq (by simp; omega) (by simp; omega)) ?_
        simp only [hw2]
        refine Ev.bindO (subLo_eq (by rw [hlen]; omega)) (Ev.guard (by simp) (Ev.bindO (subLo_eq (by rw [hlen]; omega)) (Ev.guard (by simp) (Ev.guard ?_ ?_))))
        · simp only [Int.toNat_natCast, hlen, Bool.and_eq_true, decide_eq_true_eq]; omega
        · simp only [Int.toNat_natCast]
          have hc : (cpy (s ++ [0]) (tw s y + 1) (tw s y)).length = s.length + 1 := by
            have := congrArg List.length (cpy_ins s y (tw s y) htl)
            simp at this; omega
          refine Ev.bindO (idx_get (by rw [hc]; omega)) ((Ev.some _).cast (cpy_ins s y (tw s y) htl))
    · show Ev (fun K k => vcode_unique_l1 K a k (w64 ((p.length : Int) + 1), ins s y)) _
      rw [hw]
      exact ih (p ++ [y]) (ins s y) (by subst h; simp) (srt_ins hs) (by omega)
theorem ev_unique {a : List Int} (ha : Sm a) : Ev (fun K _ => vcode_unique K a) (uni [] a) := by
  unfold vcode_unique
  refine Ev.bind (Ev.loop ?_) (Ev.some _)
  exact unique_l1 ha a [] [] rfl srt_nil (by simpa using ha)

theorem ev_vreads {v : VInstr} (h : v.Args.length ≤ 100) : Ev (fun K _ => vcode_Reads K v) (rd v) := by
  unfold vcode_Reads rd
  refine Ev.bindO (vallowed _) ?_
  cases ha : alw v.Instr.Op with
  | false => exact Ev.t rfl (Ev.some _)
  | true =>
    refine Ev.f rfl (Ev.bindO (machine_info _) ?_)
    have e : rdRaw v = (((if (opI v.Instr.Op).ReadsA then [v.Instr.A] else []) ++ (if (opI v.Instr.Op).ReadsB then [v.Instr.B] else [])) ++ (if (v.Instr.Op == 11) || (v.Instr.Op == 12) then [v.Instr.C] else [])) ++ (if v.Instr.Op == 6 then v.Args else []) := rfl
    rw [if_pos rfl, e]
    refine Ev.bind (x := if (opI v.Instr.Op).ReadsA then [v.Instr.A] else []) (Ev.ite (fun _ => Ev.bindO (app_eq (by simp) (by simp)) (Ev.some _)) (fun _ => Ev.some _)) ?_
    generalize hs : (if (opI v.Instr.Op).ReadsA then [v.Instr.A] else []) = s
    have hl : s.length ≤ 1 := by rw [← hs]; split <;> simp
    refine Ev.bind (x := s ++ if (opI v.Instr.Op).ReadsB then [v.Instr.B] else []) ?_ ?_
    · show Ev (fun K k => cnd (opI v.Instr.Op).ReadsB _ _) _
      refine Ev.cnd (fun hb => Ev.bindO (app_eq (by simp; omega) (by simp; omega)) ((Ev.some _).cast (by rw [if_pos hb]))) (fun hb => (Ev.some _).cast (by rw [if_neg (by rw [hb]; simp)]; simp))
    generalize hs2 : (s ++ if (opI v.Instr.Op).ReadsB then [v.Instr.B] else []) = s2
    have hl2 : s2.length ≤ 2 := by rw [← hs2]; split <;> simp <;> omega
    refine Ev.bind (x := s2 ++ if (v.Instr.Op == 11) || (v.Instr.Op == 12) then [v.Instr.C] else []) ?_ ?_
    · generalize ((v.Instr.Op == 11) || (v.Instr.Op == 12)) = b1
      cases b1 with
      | true => exact Ev.t rfl (Ev.bindO (app_eq (by simp; omega) (by simp; omega)) ((Ev.some _).cast (by simp)))
      | false => exact Ev.f rfl ((Ev.some _).cast (by simp))
    generalize hs3 : (s2 ++ if (v.Instr.Op == 11) || (v.Instr.Op == 12) then [v.Instr.C] else []) = s3
    have hl3 : s3.length ≤ 3 := by
      rw [← hs3]
      generalize ((v.Instr.Op == 11) || (v.Instr.Op == 12)) = b1
      cases b1 <;> simp <;> omega
    generalize (v.Instr.Op == 6) = b6
    refine Ev.bind (x := s3 ++ if b6 then v.Args else []) ?_ ?_
    · cases b6 with
      | true => exact Ev.t rfl (Ev.bindO (app_eq (by omega) (by omega)) ((Ev.some _).cast (by simp)))
      | false => exact Ev.f rfl ((Ev.some _).cast (by simp))
    refine Ev.bind (ev_unique ?_) (Ev.some _)
    have : (if b6 then v.Args else []).length ≤ 100 := by cases b6 <;> simp; exact h
    unfold Sm; rw [List.length_append]; omega

theorem reads_l1 {v : VInstr} (h : v.Args.length ≤ 100) (hop : (v.Instr.Op == 6) = true) : ∀ (m p s : List Int), v.Args = p ++ m → s.length + m.length ≤ 200 → Ev (fun K k => ref32_Reads_l1 K v k (s, (p.length : Int))) (m.foldl ins s) := by
  intro m
  induction m with
  | nil =>
    intro p s h _
    refine Ev.step (fun K k => rfl) (Ev.f ?_ (Ev.some _))
    rw [h]; simp
  | cons y m ih =>
    intro p s he hs
    have hg : idx v.Args (p.length : Int) = some y := idx_eq (by rw [he]; simp)
    have hlt : (p.length : Int) < (v.Args.length : Int) := by rw [he]; simp; omega
    have hw : w64 ((p.length : Int) + 1) = ((p ++ [y]).length : Int) := by
      rw [w64_id (by omega) (by omega)]; simp
    have hln := len_ins s y
    simp only [List.length_cons] at hs
    refine Ev.step (fun K k => rfl) (Ev.t (by simp [hlt, hop]) (Ev.bindO hg (Ev.bind (ev_insert (show Sm s by unfold Sm; omega)) ?_)))
    show Ev (fun K k => ref32_Reads_l1 K v k (ins s y, w64 ((p.length : Int) + 1))) _
    rw [hw]
    exact ih (p ++ [y]) (ins s y) (by rw [he]; simp) (by omega)
theorem ev_rreads {v : VInstr} (h : v.Args.length ≤ 100) : Ev (fun K _ => ref32_Reads K v) (rd v) := by
  unfold ref32_Reads rd
  refine Ev.bindO (rallowed _) ?_
  cases ha : alw v.Instr.Op with
  | false => exact Ev.t rfl (Ev.some _)
  | true =>
    obtain ⟨i1, i2, i3, _⟩ := info_eq ha
    refine Ev.f rfl (Ev.bindO (ref_info ha) ?_)
    rw [if_pos rfl]
    simp only [i1, i2, i3]
    have e : uni [] (rdRaw v) = uni (uni (uni (uni [] (if (opI v.Instr.Op).ReadsA then [v.Instr.A] else [])) (if (opI v.Instr.Op).ReadsB then [v.Instr.B] else [])) (if (v.Instr.Op == 11) || (v.Instr.Op == 12) then [v.Instr.C] else [])) (if v.Instr.Op == 6 then v.Args else []) := by
      simp only [uni, rdRaw, List.foldl_append]
    rw [e]
    refine Ev.bind (x := uni [] (if (opI v.Instr.Op).ReadsA then [v.Instr.A] else [])) (Ev.cnd (fun hb => Ev.bind (ev_insert (by simp [Sm])) ((Ev.some _).cast (by simp [hb, uni]))) (fun hb => (Ev.some _).cast (by simp [hb, uni]))) ?_
    generalize hs : uni [] (if (opI v.Instr.Op).ReadsA then [v.Instr.A] else []) = s
    have hl : s.length ≤ 1 := by rw [← hs]; split <;> simp [uni, ins]
    refine Ev.bind (x := uni s (if (opI v.Instr.Op).ReadsB then [v.Instr.B] else [])) (Ev.cnd (fun hb => Ev.bind (ev_insert (by unfold Sm; omega)) ((Ev.some _).cast (by simp [hb, uni]))) (fun hb => (Ev.some _).cast (by simp [hb, uni]))) ?_
    generalize hs2 : uni s (if (opI v.Instr.Op).ReadsB then [v.Instr.B] else []) = s2
    have hl2 : s2.length ≤ 2 := by rw [← hs2]; split; exact Nat.le_trans (len_uni _ _) (by simp; omega); simp [uni]; omega
    refine Ev.bind (x := uni s2 (if (v.Instr.Op == 11) || (v.Instr.Op == 12) then [v.Instr.C] else [])) (Ev.cnd (fun hb => Ev.bind (ev_insert (by unfold Sm; omega)) ((Ev.some _).cast (by rw [if_pos hb]; rfl))) (fun hb => (Ev.some _).cast (by rw [if_neg (by simp [hb])]; rfl))) ?_
    generalize hs3 : uni s2 (if (v.Instr.Op == 11) || (v.Instr.Op == 12) then [v.Instr.C] else []) = s3
    have hl3 : s3.length ≤ 3 := by rw [← hs3]; split; exact Nat.le_trans (len_uni _ _) (by simp; omega); simp [uni]; omega
    refine Ev.bind (x := uni s3 (if v.Instr.Op == 6 then v.Args else [])) ?_ (Ev.some _)
    refine Ev.loop ?_
    cases hop : v.Instr.Op == 6 with
    | true => exact reads_l1 h hop v.Args [] s3 rfl (by omega)
    | false => exact Ev.step (fun K k => rfl) (Ev.f (by simp [hop]) (Ev.some _))
theorem ev_vsucc (b : Block) : Ev (fun K _ => vcode_Successors K b) (su b) := by
  unfold vcode_Successors su
  refine Ev.ite (fun _ => Ev.some _) (fun _ => Ev.ite (fun _ => Ev.bind (ev_unique (by simp [Sm])) ((Ev.some _).cast ?_)) (fun _ => Ev.some _))
  rfl
theorem ev_rsucc (b : Block) : Ev (fun K _ => ref32_Successors K b) (su b) := by
  unfold ref32_Successors su
  exact Ev.ite (fun _ => Ev.some _) (fun _ => Ev.ite (fun _ => Ev.bind (ev_insert (by simp [Sm])) (Ev.some _)) (fun _ => Ev.some _))
theorem rendreads (b : Block) : ref32_endReads b = some (er b) := by
  unfold ref32_endReads er
  cases ((b.End == 2) || (b.End == 3)) <;> rfl
end Go.Proofs.YtocfnpnnbmicmaaDoor.Tc
