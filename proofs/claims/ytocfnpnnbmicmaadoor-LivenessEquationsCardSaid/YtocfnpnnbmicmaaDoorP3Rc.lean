/- Valid virtual code: the program's test and the reference's come to one and the same. -/
import Derived.Test.YtocfnpnnbmicmaaDoorP2Rc
set_option linter.unusedVariables false
set_option linter.unusedSimpArgs false
set_option maxRecDepth 20000
namespace Go.Proofs.YtocfnpnnbmicmaaDoor.Tc
open Go

def regB (c : VFunc) (n : Int) : Bool := (decide (n ≥ 0)) && (decide (n < c.Regs))
def blkB (c : VFunc) (n : Int) : Bool := (decide (n ≥ 0)) && (decide (n < ((c.Blocks).length : Int)))
def fm (op : Int) : Int := if op == 38 then 5 else (opI op).Form
def fA (f : Int) : Bool := (f == 2) || (f == 3) || (f == 4) || (f == 5) || (f == 7)
def fB (f : Int) : Bool := (f == 3) || (f == 4) || (f == 7)
def fC (f : Int) : Bool := (f == 4)
def fN (f : Int) : Bool := (f == 5) || (f == 7)
/-- The number that an operation bears is in its range. -/
def numB (c : VFunc) (i : Instr) : Bool :=
  if i.Op == 33 then (decide (i.N ≥ (-4194304))) && (decide (i.N < 4194304)) else if i.Op == 6 then (decide (i.N ≥ 0)) && (decide (i.N < 8))
  else if (i.Op == 34) || (i.Op == 35) then (decide (i.N ≥ 0)) && (decide (i.N < 4)) else if i.Op == 38 then (decide (i.N ≥ 0)) && (decide (i.N < c.Params)) else true
def insB (c : VFunc) (v : VInstr) : Bool :=
  if (((!(alw v.Instr.Op)) || (decide (((v.Args).length : Int) > 6))) || ((v.Instr.Op != 6) && (decide (((v.Args).length : Int) > 0)))) then false
  else if v.Args.all (regB c) then
    if (((((((fA (fm v.Instr.Op) && !(regB c v.Instr.A)) || (fB (fm v.Instr.Op) && !(regB c v.Instr.B))) || (fC (fm v.Instr.Op) && !(regB c v.Instr.C))) || ((!(fA (fm v.Instr.Op))) && (v.Instr.A != 0))) || ((!(fB (fm v.Instr.Op))) && (v.Instr.B != 0))) || ((!(fC (fm v.Instr.Op))) && (v.Instr.C != 0))) || ((!(fN (fm v.Instr.Op))) && (v.Instr.N != 0))) then false
    else numB c v.Instr
  else false
def endB (c : VFunc) (b : Block) : Bool :=
  if b.End == 1 then (blkB c b.Target && (b.Reg == 0)) && (b.Else == 0) else if b.End == 2 then (blkB c b.Target && blkB c b.Else) && regB c b.Reg
  else if b.End == 3 then (regB c b.Reg && (b.Target == 0)) && (b.Else == 0) else if b.End == 4 then (((decide (b.Target ≥ 1)) && (decide (b.Target < 33554432))) && (b.Reg == 0)) && (b.Else == 0) else false
def headB (c : VFunc) : Bool := ((((((decide (c.Params < 0)) || (decide (c.Params > 6))) || (decide (c.Regs < 0))) || (decide (c.Regs > 3000))) || (decide (((c.Blocks).length : Int) < 1))) || (decide (((c.Blocks).length : Int) > 1000)))
def validB (c : VFunc) : Bool := !(headB c) && c.Blocks.all (fun b => b.Instrs.all (insB c) && endB c b)

theorem vform (op : Int) : vcode_form op = some (fm op) := by
  unfold vcode_form fm
  rw [machine_info]
  cases op == 38 <;> rfl
theorem ev_args {c : VFunc} {v : VInstr} (h : v.Args.length ≤ 6) : ∀ (m p : List Int), v.Args = p ++ m → Ev (fun K k => vcode_validInstr_l1 K c v k (p.length : Int)) (if m.all (regB c) then .inl () else .inr false) := by
  intro m
  induction m with
  | nil =>
    intro p he
    refine Ev.step (fun K k => rfl) (Ev.f ?_ ((Ev.inn ()).cast (by simp)))
    rw [he]; simp
  | cons y m ih =>
    intro p he
    have hg : idx v.Args (p.length : Int) = some y := idx_eq (by rw [he]; simp)
    have hlt : (p.length : Int) < (v.Args.length : Int) := by rw [he]; simp; omega
    have hw : w64 ((p.length : Int) + 1) = ((p ++ [y]).length : Int) := by
      rw [w64_id (by omega) (by omega)]; simp
    refine Ev.step (fun K k => rfl) (Ev.t (by simpa using hlt) (Ev.bindO hg (Ev.bindO (x := regB c y) rfl ?_)))
    cases hy : regB c y with
    | true =>
      refine Ev.f rfl ?_
      rw [hw]
      refine (ih (p ++ [y]) (by rw [he]; simp)).cast ?_
      simp [hy]
    | false => exact Ev.t rfl ((Ev.out (Ev.some false)).cast (by simp [hy]))
theorem ev_vvalidInstr (c : VFunc) (v : VInstr) : Ev (fun K _ => vcode_validInstr K c v) (insB c v) := by
  unfold vcode_validInstr insB
  refine Ev.bindO (vallowed _) (Ev.ite (fun _ => Ev.some _) (fun h0 => ?_))
  have hlen : v.Args.length ≤ 6 := by
    simp only [Bool.or_eq_false_iff, decide_eq_false_iff_not] at h0
    have := h0.1.2; omega
  have hargs : Ev (fun K _ => vcode_validInstr_l1 K c v K 0) _ := Ev.loop (ev_args (c := c) hlen v.Args [] rfl)
  cases ha : v.Args.all (regB c) with
  | false => rw [ha] at hargs; exact Ev.sqr hargs
  | true =>
    rw [ha] at hargs
    refine Ev.sql hargs ?_
    refine Ev.bind (x := (fA (fm v.Instr.Op), fB (fm v.Instr.Op), fC (fm v.Instr.Op), fN (fm v.Instr.Op))) (Ev.of ?_) ?_
    · rw [vform]
      simp only [Option.bind_some, fA, fB, fC, fN]
      generalize fm v.Instr.Op = f
      by_cases h2 : f = 2
      · subst h2; rfl
      by_cases h3 : f = 3
      · subst h3; rfl
      by_cases h4 : f = 4
      · subst h4; rfl
      by_cases h5 : f = 5
      · subst h5; rfl
      by_cases h7 : f = 7
      · subst h7; rfl
      rw [show (f == 2) = false by simpa using h2, show (f == 3) = false by simpa using h3, show (f == 4) = false by simpa using h4, show (f == 5) = false by simpa using h5, show (f == 7) = false by simpa using h7]
      rfl
    refine Ev.bind (x := fA (fm v.Instr.Op) && !(regB c v.Instr.A)) (Ev.of ?_) (Ev.bind (x := (fA (fm v.Instr.Op) && !(regB c v.Instr.A)) || (fB (fm v.Instr.Op) && !(regB c v.Instr.B))) (Ev.of ?_) (Ev.bind (x := ((fA (fm v.Instr.Op) && !(regB c v.Instr.A)) || (fB (fm v.Instr.Op) && !(regB c v.Instr.B))) || (fC (fm v.Instr.Op) && !(regB c v.Instr.C))) (Ev.of ?_) ?_))
    · show cnd (fA (fm v.Instr.Op)) (some (!(regB c v.Instr.A))) (some false) = _
      cases fA (fm v.Instr.Op) <;> rfl
    · show cnd (fA (fm v.Instr.Op) && !(regB c v.Instr.A)) (some true) ((cnd (fB (fm v.Instr.Op)) (some (!(regB c v.Instr.B))) (some false)).bind some) = _
      cases (fA (fm v.Instr.Op) && !(regB c v.Instr.A)) <;> cases fB (fm v.Instr.Op) <;> rfl
    · show cnd ((fA (fm v.Instr.Op) && !(regB c v.Instr.A)) || (fB (fm v.Instr.Op) && !(regB c v.Instr.B))) (some true) ((cnd (fC (fm v.Instr.Op)) (some (!(regB c v.Instr.C))) (some false)).bind some) = _
      cases ((fA (fm v.Instr.Op) && !(regB c v.Instr.A)) || (fB (fm v.Instr.Op) && !(regB c v.Instr.B))) <;> cases fC (fm v.Instr.Op) <;> rfl
    refine Ev.ite (fun _ => Ev.some _) (fun _ => ?_)
    unfold numB
    refine Ev.ite (fun _ => Ev.some _) (fun _ => Ev.ite (fun _ => Ev.some _) (fun _ => Ev.bindO (x := (v.Instr.Op == 34) || (v.Instr.Op == 35)) ?_ (Ev.ite (fun _ => Ev.some _) (fun _ => Ev.ite (fun _ => Ev.some _) (fun _ => Ev.some _)))))
    cases v.Instr.Op == 34 <;> rfl
theorem ev_vvalid_l2 {c : VFunc} {b : Block} (hb : Sm b.Instrs) : ∀ (m p : List VInstr), b.Instrs = p ++ m → Ev (fun K k => vcode_Valid_l2 K c b k (p.length : Int)) (if m.all (insB c) then .inl () else .inr (.inr false)) := by
  intro m
  induction m with
  | nil =>
    intro p he
    refine Ev.step (fun K k => rfl) (Ev.f ?_ ((Ev.inn ()).cast (by simp)))
    rw [he]; simp
  | cons y m ih =>
    intro p he
    have hg : idx b.Instrs (p.length : Int) = some y := idx_eq (by rw [he]; simp)
    have hlt : (p.length : Int) < (b.Instrs.length : Int) := by rw [he]; simp; omega
    have hw : w64 ((p.length : Int) + 1) = ((p ++ [y]).length : Int) := by
      rw [w64_id (by omega) (by omega)]; simp
    refine Ev.step (fun K k => rfl) (Ev.t (by simpa using hlt) (Ev.bindO hg (Ev.bind (ev_vvalidInstr c y) ?_)))
    cases hy : insB c y with
    | true =>
      refine Ev.f rfl ?_
      rw [hw]
      refine (ih (p ++ [y]) (by rw [he]; simp)).cast ?_
      simp [hy]
    | false => exact Ev.t rfl ((Ev.out (Ev.out (Ev.some false))).cast (by simp [hy]))
/-- All lengths within are such as a machine can hold. -/
def SmF (c : VFunc) : Prop := Sm c.Blocks ∧ ∀ b, b ∈ c.Blocks → Sm b.Instrs
theorem ev_vvalid_l1 {c : VFunc} (hc : SmF c) : ∀ (m p : List Block), c.Blocks = p ++ m → Ev (fun K k => vcode_Valid_l1 K c k (p.length : Int)) (if m.all (fun b => b.Instrs.all (insB c) && endB c b) then .inl () else .inr false) := by
  have hc1 := hc.1
  intro m
  induction m with
  | nil =>
    intro p he
    refine Ev.step (fun K k => rfl) (Ev.f ?_ ((Ev.inn ()).cast (by simp)))
    rw [he]; simp
  | cons y m ih =>
    intro p he
    have hg : idx c.Blocks (p.length : Int) = some y := idx_eq (by rw [he]; simp)
    have hlt : (p.length : Int) < (c.Blocks.length : Int) := by rw [he]; simp; omega
    have hw : w64 ((p.length : Int) + 1) = ((p ++ [y]).length : Int) := by
      rw [w64_id (by omega) (by omega)]; simp
    have h2 : Ev (fun K _ => vcode_Valid_l2 K c y K 0) _ := Ev.loop (ev_vvalid_l2 (c := c) (hc.2 y (by rw [he]; simp)) y.Instrs [] rfl)
    refine Ev.step (fun K k => rfl) (Ev.t (by simpa using hlt) (Ev.bindO hg ?_))
    cases hi : y.Instrs.all (insB c) with
    | false => rw [hi] at h2; refine (Ev.sqr h2).cast ?_; simp [hi]
    | true =>
      rw [hi] at h2
      refine Ev.sql h2 (Ev.bindO (x := endB c y) ?_ ?_)
      · have e1 : ∀ n, vcode_Valid_1 n c = some (blkB c n) := fun n => rfl
        have e2 : ∀ n, vcode_Valid_2 n c = some (regB c n) := fun n => rfl
        simp only [e1, e2, Option.bind_some, endB]
        cases y.End == 1 <;> cases y.End == 2 <;> cases y.End == 3 <;> cases y.End == 4 <;> cases blkB c y.Target <;> cases blkB c y.Else <;> rfl
      · cases hy : endB c y with
        | true =>
          refine Ev.f rfl ?_
          rw [hw]
          refine (ih (p ++ [y]) (by rw [he]; simp)).cast ?_
          simp [hi, hy]
        | false => exact Ev.t rfl ((Ev.out (Ev.some false)).cast (by simp [hi, hy]))
theorem ev_vvalid {c : VFunc} (hc : SmF c) : Ev (fun K _ => vcode_Valid K c) (validB c) := by
  unfold vcode_Valid validB
  have h1 : Ev (fun K _ => vcode_Valid_l1 K c K 0) _ := Ev.loop (ev_vvalid_l1 hc c.Blocks [] rfl)
  show Ev (fun K _ => cnd (headB c) _ _) _
  cases hh : headB c with
  | true => exact Ev.t rfl (Ev.some _)
  | false =>
    refine Ev.f rfl ?_
    cases hb : c.Blocks.all (fun b => b.Instrs.all (insB c) && endB c b) with
    | true => rw [hb] at h1; exact Ev.sql h1 (Ev.some _)
    | false => rw [hb] at h1; exact Ev.sqr h1

/-! ### The reference's test -/
theorem form_all : opsL.all (fun op => ((refI op).Form == fm op) && ((fm op != 1) == fA (fm op)) && (fN (fm op) == ((op == 13) || (op == 33) || (op == 6) || (op == 34) || (op == 35) || (op == 38)))) = true := by kernel_rfl
theorem form_eq {op : Int} (h : alw op = true) : (refI op).Form = fm op ∧ (fm op != 1) = fA (fm op) ∧ fN (fm op) = ((op == 13) || (op == 33) || (op == 6) || (op == 34) || (op == 35) || (op == 38)) := by
  have := List.all_eq_true.1 form_all op (alw_mem h)
  simp only [Bool.and_eq_true, beq_iff_eq] at this
  exact ⟨this.1.1, this.1.2, this.2⟩
theorem ev_rargs {c : VFunc} {v : VInstr} (h : v.Args.length ≤ 6) : ∀ (m p : List Int), v.Args = p ++ m → Ev (fun K k => ref32_validInstr_l1 K v c k (p.length : Int)) (if m.all (regB c) then .inl () else .inr false) := by
  intro m
  induction m with
  | nil =>
    intro p he
    refine Ev.step (fun K k => rfl) (Ev.f ?_ ((Ev.inn ()).cast (by simp)))
    rw [he]; simp
  | cons y m ih =>
    intro p he
    have hg : idx v.Args (p.length : Int) = some y := idx_eq (by rw [he]; simp)
    have hlt : (p.length : Int) < (v.Args.length : Int) := by rw [he]; simp; omega
    have hw : w64 ((p.length : Int) + 1) = ((p ++ [y]).length : Int) := by
      rw [w64_id (by omega) (by omega)]; simp
    refine Ev.step (fun K k => rfl) (Ev.t (by simpa using hlt) (Ev.bind (x := !(regB c y)) (Ev.bindO hg (Ev.cnd (fun h1 => (Ev.some _).cast ?_) (fun h1 => Ev.bindO hg ((Ev.some _).cast ?_)))) ?_))
    · have h2 : y < 0 := by simpa using h1
      have : regB c y = false := by unfold regB; simp; omega
      rw [this]; rfl
    · have h2 : ¬ y < 0 := by simpa using h1
      unfold regB
      rw [Bool.eq_iff_iff]; simp; omega
    · cases hy : regB c y with
      | true =>
        refine Ev.f rfl ?_
        rw [hw]
        refine (ih (p ++ [y]) (by rw [he]; simp)).cast ?_
        simp [hy]
      | false => exact Ev.t rfl ((Ev.out (Ev.some false)).cast (by simp [hy]))
theorem roperand (b : Bool) (n : Int) (c : VFunc) : ref32_validOperand b n c.Regs = some (if b then regB c n else n == 0) := by
  unfold ref32_validOperand regB
  cases b <;> rfl
theorem ev_rvalidInstr (c : VFunc) (v : VInstr) : Ev (fun K _ => ref32_validInstr K v c) (insB c v) := by
  unfold ref32_validInstr insB
  have e0 : (((!(alw v.Instr.Op)) || (decide (((v.Args).length : Int) > 6))) || ((v.Instr.Op != 6) && (decide (((v.Args).length : Int) > 0)))) = (((!(alw v.Instr.Op)) || ((v.Instr.Op != 6) && (decide (((v.Args).length : Int) > 0)))) || (decide (((v.Args).length : Int) > 6))) := by
    cases (!(alw v.Instr.Op)) <;> cases (decide (((v.Args).length : Int) > 6)) <;> cases ((v.Instr.Op != 6) && (decide (((v.Args).length : Int) > 0))) <;> rfl
  rw [e0]
  refine Ev.bindO (rallowed _) (Ev.ite (fun _ => Ev.some _) (fun h0 => ?_))
  have hlen : v.Args.length ≤ 6 := by
    simp only [Bool.or_eq_false_iff, decide_eq_false_iff_not] at h0
    have := h0.2; omega
  have hal : alw v.Instr.Op = true := by
    simp only [Bool.or_eq_false_iff, Bool.not_eq_false'] at h0
    exact h0.1.1
  obtain ⟨f1, f2, f3⟩ := form_eq hal
  have hargs : Ev (fun K _ => ref32_validInstr_l1 K v c K 0) _ := Ev.loop (ev_rargs (c := c) hlen v.Args [] rfl)
  cases ha : v.Args.all (regB c) with
  | false => rw [ha] at hargs; exact Ev.sqr hargs
  | true =>
    rw [ha] at hargs
    refine Ev.sql hargs (Ev.bindO (ref_info hal) ?_)
    rw [if_pos rfl]
    have eB : (((fm v.Instr.Op == 3) || (fm v.Instr.Op == 4)) || (fm v.Instr.Op == 7)) = fB (fm v.Instr.Op) := rfl
    have eC : (fm v.Instr.Op == 4) = fC (fm v.Instr.Op) := rfl
    simp only [f1, f2, eB]
    simp only [eC]
    generalize hpA : (if fA (fm v.Instr.Op) then regB c v.Instr.A else v.Instr.A == 0) = pA
    generalize hpB : (if fB (fm v.Instr.Op) then regB c v.Instr.B else v.Instr.B == 0) = pB
    generalize hpC : (if fC (fm v.Instr.Op) then regB c v.Instr.C else v.Instr.C == 0) = pC
    have eall : ((((((fA (fm v.Instr.Op) && !(regB c v.Instr.A)) || (fB (fm v.Instr.Op) && !(regB c v.Instr.B))) || (fC (fm v.Instr.Op) && !(regB c v.Instr.C))) || ((!(fA (fm v.Instr.Op))) && (v.Instr.A != 0))) || ((!(fB (fm v.Instr.Op))) && (v.Instr.B != 0))) || ((!(fC (fm v.Instr.Op))) && (v.Instr.C != 0))) = (((!pA) || (!pB)) || (!pC)) := by
      subst hpA hpB hpC
      simp only [bne]
      cases fA (fm v.Instr.Op) <;> cases fB (fm v.Instr.Op) <;> cases fC (fm v.Instr.Op) <;> cases regB c v.Instr.A <;> cases regB c v.Instr.B <;> cases regB c v.Instr.C <;> cases v.Instr.A == 0 <;> cases v.Instr.B == 0 <;> cases v.Instr.C == 0 <;> rfl
    rw [eall]
    refine Ev.bindO ((roperand _ _ c).trans (congrArg some hpA)) (Ev.bind (x := (!pA) || (!pB)) (Ev.of ?_) (Ev.bind (x := ((!pA) || (!pB)) || (!pC)) (Ev.of ?_) ?_))
    · rw [roperand, hpB]; cases pA <;> rfl
    · rw [roperand, hpC]; cases pA <;> cases pB <;> rfl
    cases ((!pA) || (!pB)) || (!pC) with
    | true => exact Ev.t rfl (Ev.some _)
    | false =>
      refine Ev.f rfl ?_
      rw [f3]
      unfold numB
      by_cases h13 : v.Instr.Op = 13
      · rw [h13]; exact Ev.t rfl ((Ev.some _).cast rfl)
      by_cases h33 : v.Instr.Op = 33
      · rw [h33]; exact Ev.f rfl (Ev.t rfl ((Ev.some _).cast rfl))
      by_cases h6 : v.Instr.Op = 6
      · rw [h6]; exact Ev.f rfl (Ev.f rfl (Ev.t rfl ((Ev.some _).cast rfl)))
      by_cases h34 : v.Instr.Op = 34
      · rw [h34]; exact Ev.f rfl (Ev.f rfl (Ev.f rfl (Ev.bindO rfl (Ev.t rfl ((Ev.some _).cast rfl)))))
      by_cases h35 : v.Instr.Op = 35
      · rw [h35]; exact Ev.f rfl (Ev.f rfl (Ev.f rfl (Ev.bindO rfl (Ev.t rfl ((Ev.some _).cast rfl)))))
      by_cases h38 : v.Instr.Op = 38
      · rw [h38]; exact Ev.f rfl (Ev.f rfl (Ev.f rfl (Ev.bindO rfl (Ev.f rfl (Ev.t rfl ((Ev.some _).cast rfl))))))
      rw [show (v.Instr.Op == 13) = false by simpa using h13, show (v.Instr.Op == 33) = false by simpa using h33, show (v.Instr.Op == 6) = false by simpa using h6, show (v.Instr.Op == 34) = false by simpa using h34, show (v.Instr.Op == 35) = false by simpa using h35, show (v.Instr.Op == 38) = false by simpa using h38]
      refine Ev.f rfl (Ev.f rfl (Ev.f rfl (Ev.bindO rfl (Ev.f rfl (Ev.f rfl ((Ev.some _).cast ?_))))))
      by_cases hN : v.Instr.N = 0
      · simp [hN]
      · have : (v.Instr.N == 0) = false := by simpa using hN
        simp [this, hN]
theorem ev_rvalid_l2 {c : VFunc} {b : Block} (hb : Sm b.Instrs) : ∀ (m p : List VInstr), b.Instrs = p ++ m → Ev (fun K k => ref32_Valid_l2 K c b k (p.length : Int)) (if m.all (insB c) then .inl () else .inr (.inr false)) := by
  intro m
  induction m with
  | nil =>
    intro p he
    refine Ev.step (fun K k => rfl) (Ev.f ?_ ((Ev.inn ()).cast (by simp)))
    rw [he]; simp
  | cons y m ih =>
    intro p he
    have hg : idx b.Instrs (p.length : Int) = some y := idx_eq (by rw [he]; simp)
    have hlt : (p.length : Int) < (b.Instrs.length : Int) := by rw [he]; simp; omega
    have hw : w64 ((p.length : Int) + 1) = ((p ++ [y]).length : Int) := by
      rw [w64_id (by omega) (by omega)]; simp
    refine Ev.step (fun K k => rfl) (Ev.t (by simpa using hlt) (Ev.bindO hg (Ev.bind (ev_rvalidInstr c y) ?_)))
    cases hy : insB c y with
    | true =>
      refine Ev.f rfl ?_
      rw [hw]
      refine (ih (p ++ [y]) (by rw [he]; simp)).cast ?_
      simp [hy]
    | false => exact Ev.t rfl ((Ev.out (Ev.out (Ev.some false))).cast (by simp [hy]))
theorem rvalidEnd (c : VFunc) (b : Block) : ref32_validEnd b c = some (endB c b) := by
  unfold ref32_validEnd endB blkB regB
  have e : (cnd (decide (b.Target ≥ 0)) (cnd (decide (b.Else ≥ 0)) (cnd (decide (b.Reg ≥ 0)) (some ((decide (b.Target < ((c.Blocks).length : Int))), (decide (b.Else < ((c.Blocks).length : Int))), (decide (b.Reg < c.Regs)))) (some ((decide (b.Target < ((c.Blocks).length : Int))), (decide (b.Else < ((c.Blocks).length : Int))), false))) (cnd (decide (b.Reg ≥ 0)) (some ((decide (b.Target < ((c.Blocks).length : Int))), false, (decide (b.Reg < c.Regs)))) (some ((decide (b.Target < ((c.Blocks).length : Int))), false, false)))) (cnd (decide (b.Else ≥ 0)) (cnd (decide (b.Reg ≥ 0)) (some (false, (decide (b.Else < ((c.Blocks).length : Int))), (decide (b.Reg < c.Regs)))) (some (false, (decide (b.Else < ((c.Blocks).length : Int))), false))) (cnd (decide (b.Reg ≥ 0)) (some (false, false, (decide (b.Reg < c.Regs)))) (some (false, false, false))))) = some (decide (b.Target ≥ 0) && decide (b.Target < ((c.Blocks).length : Int)), decide (b.Else ≥ 0) && decide (b.Else < ((c.Blocks).length : Int)), decide (b.Reg ≥ 0) && decide (b.Reg < c.Regs)) := by
    cases decide (b.Target ≥ 0) <;> cases decide (b.Else ≥ 0) <;> cases decide (b.Reg ≥ 0) <;> rfl
  rw [e]
  simp only [Option.bind_some]
  generalize (decide (b.Target ≥ 0) && decide (b.Target < ((c.Blocks).length : Int))) = t
  generalize (decide (b.Else ≥ 0) && decide (b.Else < ((c.Blocks).length : Int))) = f
  generalize (decide (b.Reg ≥ 0) && decide (b.Reg < c.Regs)) = r
  cases b.End == 1 <;> cases b.End == 2 <;> cases b.End == 3 <;> cases b.End == 4 <;> simp only [cnd, Bool.false_eq_true, if_true, if_false, Option.some.injEq] <;> cases t <;> cases b.Else == 0 <;> cases b.Reg == 0 <;> cases r <;> cases f <;> simp
theorem ev_rvalid_l1 {c : VFunc} (hc : SmF c) : ∀ (m p : List Block), c.Blocks = p ++ m → Ev (fun K k => ref32_Valid_l1 K c k (p.length : Int)) (if m.all (fun b => b.Instrs.all (insB c) && endB c b) then .inl () else .inr false) := by
  have hc1 := hc.1
  intro m
  induction m with
  | nil =>
    intro p he
    refine Ev.step (fun K k => rfl) (Ev.f ?_ ((Ev.inn ()).cast (by simp)))
    rw [he]; simp
  | cons y m ih =>
    intro p he
    have hg : idx c.Blocks (p.length : Int) = some y := idx_eq (by rw [he]; simp)
    have hlt : (p.length : Int) < (c.Blocks.length : Int) := by rw [he]; simp; omega
    have hw : w64 ((p.length : Int) + 1) = ((p ++ [y]).length : Int) := by
      rw [w64_id (by omega) (by omega)]; simp
    have h2 : Ev (fun K _ => ref32_Valid_l2 K c y K 0) _ := Ev.loop (ev_rvalid_l2 (c := c) (hc.2 y (by rw [he]; simp)) y.Instrs [] rfl)
    refine Ev.step (fun K k => rfl) (Ev.t (by simpa using hlt) (Ev.bindO hg (Ev.bindO (rvalidEnd c y) ?_)))
    cases hy : endB c y with
    | false => exact Ev.t rfl ((Ev.out (Ev.some false)).cast (by simp [hy]))
    | true =>
      refine Ev.f rfl ?_
      cases hi : y.Instrs.all (insB c) with
      | false => rw [hi] at h2; refine (Ev.sqr h2).cast ?_; simp [hi]
      | true =>
        rw [hi] at h2
        refine Ev.sql h2 ?_
        rw [hw]
        refine (ih (p ++ [y]) (by rw [he]; simp)).cast ?_
        simp [hi, hy]
theorem ev_rvalid {c : VFunc} (hc : SmF c) : Ev (fun K _ => ref32_Valid K c) (validB c) := by
  unfold ref32_Valid validB
  have h1 : Ev (fun K _ => ref32_Valid_l1 K c K 0) _ := Ev.loop (ev_rvalid_l1 hc c.Blocks [] rfl)
  show Ev (fun K _ => cnd (headB c) _ _) _
  cases hh : headB c with
  | true => exact Ev.t rfl (Ev.some _)
  | false =>
    refine Ev.f rfl ?_
    cases hb : c.Blocks.all (fun b => b.Instrs.all (insB c) && endB c b) with
    | true => rw [hb] at h1; exact Ev.sql h1 (Ev.some _)
    | false => rw [hb] at h1; exact Ev.sqr h1
end Go.Proofs.YtocfnpnnbmicmaaDoor.Tc
