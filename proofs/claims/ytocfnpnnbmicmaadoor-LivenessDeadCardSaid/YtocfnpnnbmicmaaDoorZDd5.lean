/- The plain laws: what the pure functions come to. -/
import Derived.IntWalk
import Derived.Test.YtocfnpnnbmicmaaDoorZDd4
section
set_option linter.unusedVariables false
set_option linter.unusedSimpArgs false
namespace Go.Proofs.YtocfnpnnbmicmaaDoor.Tc
open Go
def Ev {α : Type} (f : Nat → Nat → Option α) (x : α) : Prop := ∃ N, ∀ K k, N ≤ K → N ≤ k → f K k = some x
section
variable {α β S R : Type}
theorem Ev.of {o : Option α} {x : α} (h : o = some x) : Ev (fun _ _ => o) x := ⟨0, fun _ _ _ _ => h⟩
theorem Ev.some (x : α) : Ev (fun _ _ => some x) x := ⟨0, fun _ _ _ _ => rfl⟩
theorem Ev.cast {f : Nat → Nat → Option α} {x y : α} (h : Ev f x) (e : x = y) : Ev f y := e ▸ h
theorem Ev.bind {f : Nat → Nat → Option α} {g : Nat → Nat → α → Option β} {x : α} {y : β} (hf : Ev f x) (hg : Ev (fun K k => g K k x) y) : Ev (fun K k => (f K k).bind (g K k)) y := by
 obtain ⟨m, hm⟩ := hf
 obtain ⟨n, hn⟩ := hg
 exact ⟨max m n, fun K k hK hk => by show (f K k).bind (g K k) = _; rw [hm K k (by omega) (by omega)]; exact hn K k (by omega) (by omega)⟩
theorem Ev.bindO {o : Option α} {g : Nat → Nat → α → Option β} {x : α} {y : β} (h : o = Option.some x) (hg : Ev (fun K k => g K k x) y) : Ev (fun K k => o.bind (g K k)) y := Ev.bind (Ev.of h) hg
theorem Ev.t {b : Bool} {f g : Nat → Nat → Option α} {x : α} (hb : b = true) (h : Ev f x) : Ev (fun K k => cnd b (f K k) (g K k)) x := by subst hb; exact h
theorem Ev.f {b : Bool} {f g : Nat → Nat → Option α} {x : α} (hb : b = false) (h : Ev g x) : Ev (fun K k => cnd b (f K k) (g K k)) x := by subst hb; exact h
theorem Ev.cnd {b : Bool} {f g : Nat → Nat → Option α} {x : α} (h1 : b = true → Ev f x) (h2 : b = false → Ev g x) : Ev (fun K k => Tc.cnd b (f K k) (g K k)) x := by
 cases b with
 | true => exact h1 rfl
 | false => exact h2 rfl
theorem Ev.ite {b : Bool} {f g : Nat → Nat → Option α} {x y : α} (h1 : b = true → Ev f x) (h2 : b = false → Ev g y) : Ev (fun K k => Tc.cnd b (f K k) (g K k)) (if b then x else y) := by
 cases b with
 | true => exact h1 rfl
 | false => exact h2 rfl
theorem Ev.guard {c : Bool} {f : Nat → Nat → Option α} {x : α} (hc : c = true) (h : Ev f x) : Ev (fun K k => guardO c (f K k)) x := Ev.t hc h
theorem Ev.sql {f : Nat → Nat → Option (S ⊕ R)} {g : Nat → Nat → S → Option R} {s : S} {y : R} (hf : Ev f (.inl s)) (hg : Ev (fun K k => g K k s) y) : Ev (fun K k => sq (f K k) (g K k)) y := Ev.bind hf hg
theorem Ev.sqr {f : Nat → Nat → Option (S ⊕ R)} {g : Nat → Nat → S → Option R} {y : R} (hf : Ev f (.inr y)) : Ev (fun K k => sq (f K k) (g K k)) y := Ev.bind hf (Ev.some y)
theorem Ev.out {f : Nat → Nat → Option R} {y : R} (hf : Ev f y) : Ev (fun K k => (out (f K k) : Option (S ⊕ R))) (.inr y) := by
 obtain ⟨n, hn⟩ := hf
 exact ⟨n, fun K k hK hk => by show Tc.out (f K k) = _; rw [hn K k hK hk]; rfl⟩
theorem Ev.inn (s : S) : Ev (fun _ _ => (inn s : Option (S ⊕ R))) (.inl s) := Ev.of rfl
theorem Ev.step {F : Nat → Nat → S → Option R} {s : S} {B : Nat → Nat → Option R} {r : R} (he : ∀ K k, F K (k + 1) s = B K k) (h : Ev B r) : Ev (fun K k => F K k s) r := by
 obtain ⟨n, hn⟩ := h
 refine ⟨n + 1, fun K k hK hk => ?_⟩
 obtain ⟨k, rfl⟩ : ∃ j, k = j + 1 := ⟨k - 1, by omega⟩
 show F K (k + 1) s = _
 rw [he]; exact hn K k (by omega) (by omega)
theorem Ev.loop {F : Nat → Nat → S → Option R} {s : S} {r : R} (h : Ev (fun K k => F K k s) r) : Ev (fun K _ => F K K s) r := by
 obtain ⟨n, hn⟩ := h
 exact ⟨n, fun K k hK hk => hn K K hK hK⟩
theorem Ev.fst {f : Nat → Option α} {x : α} (h : Ev (fun K _ => f K) x) : ∃ K, f K = Option.some x := by
 obtain ⟨n, hn⟩ := h
 exact ⟨n, hn n n (Nat.le_refl _) (Nat.le_refl _)⟩
end
theorem w64_id {n : Int} (h1 : -9223372036854775808 ≤ n) (h2 : n ≤ 9223372036854775807) : w64 n = n := by
 exact IntWalk.i64_in _ (by omega)
theorem idx_eq {α : Type} {l : List α} {i : Nat} {x : α} (h : l[i]? = some x) : idx l (i : Int) = some x := by
 unfold idx; rw [if_pos (by omega)]; simpa using h
theorem idx_get {α : Type} {l : List α} {i : Nat} (h : i < l.length) : idx l (i : Int) = some l[i] := idx_eq (List.getElem?_eq_getElem h)
theorem app_eq {α : Type} {bytes : Nat} {xs ys : List α} (h1 : (xs.length + ys.length) * bytes ≤ 140737488355328) (h2 : xs.length + ys.length ≤ 281474976710656) : app bytes xs ys = some (xs ++ ys) := by
 unfold app; rw [if_pos ⟨h1, by simp only [maxLen]; omega⟩]
theorem subHi_eq {α : Type} {l : List α} {n : Nat} (h : n ≤ l.length) : subHi l (n : Int) = some (l.take n) := by
 unfold subHi; rw [if_pos (by omega)]; simp
theorem subLo_eq {α : Type} {l : List α} {n : Nat} (h : n ≤ l.length) : subLo l (n : Int) = some (l.drop n) := by
 unfold subLo; rw [if_pos (by omega)]; simp
theorem mk_eq {α : Type} {bytes : Nat} {n : Nat} {y : α} (h : bytes * n ≤ 281474976710656) (h2 : n ≤ 9223372036854775807) : mk bytes (n : Int) y = some (List.replicate n y) := by
 unfold mk; rw [if_pos ⟨by omega, by have h3 : ((bytes * n : Nat) : Int) ≤ ((281474976710656 : Nat) : Int) := Int.ofNat_le.2 h; rw [Int.natCast_mul] at h3; exact h3, by omega⟩, Int.toNat_natCast]
end Go.Proofs.YtocfnpnnbmicmaaDoor.Tc
end
section
set_option linter.unusedVariables false
set_option linter.unusedSimpArgs false
namespace Go.Proofs.YtocfnpnnbmicmaaDoor.Tc
open Go
abbrev Sm {α : Type} (l : List α) : Prop := l.length ≤ 17592186044000
def Srt (l : List Int) : Prop := l.Pairwise (· < ·)
def ins : List Int → Int → List Int
 | [], x => [x]
 | y :: l, x => if y < x then y :: ins l x else if y = x then y :: l else x :: y :: l
def uni (a b : List Int) : List Int := b.foldl ins a
def mns (a b : List Int) : List Int := a.filter (fun x => !b.contains x)
theorem mem_ins {l : List Int} {x y : Int} : y ∈ ins l x ↔ y = x ∨ y ∈ l := by
 induction l with
 | nil => simp [ins]
 | cons z l ih =>
  simp only [ins]
  split
  ·simp only [List.mem_cons, ih]; constructor
   ·rintro (h | h | h) <;> simp [h]
   ·rintro (h | h | h) <;> simp [h]
  ·split
   ·rename_i h1 h2; subst h2; simp
   ·simp
theorem srt_ins {l : List Int} {x : Int} (h : Srt l) : Srt (ins l x) := by
 induction l with
 | nil => simp [ins, Srt]
 | cons z l ih =>
  have h1 := List.pairwise_cons.1 h
  simp only [ins]
  split
  ·rename_i hz
   refine List.pairwise_cons.2 ⟨fun y hy => ?_, ih h1.2⟩
   rcases mem_ins.1 hy with rfl | hy
   ·exact hz
   ·exact h1.1 y hy
  ·split
   ·exact h
   ·rename_i h2 h3
    refine List.pairwise_cons.2 ⟨fun y hy => ?_, h⟩
    rcases List.mem_cons.1 hy with rfl | hy
    ·omega
    ·have := h1.1 y hy; omega
theorem srt_ext {a b : List Int} (ha : Srt a) (hb : Srt b) (h : ∀ x, x ∈ a ↔ x ∈ b) : a = b := by
 induction a generalizing b with
 | nil => cases b with
  | nil => rfl
  | cons y b => exact absurd ((h y).2 (by simp)) (by simp)
 | cons x a ih =>
  cases b with
  | nil => exact absurd ((h x).1 (by simp)) (by simp)
  | cons y b =>
   have h1 := List.pairwise_cons.1 ha
   have h2 := List.pairwise_cons.1 hb
   have hxy : x = y := by
    rcases List.mem_cons.1 ((h x).1 (by simp)) with e | e
    ·exact e
    ·rcases List.mem_cons.1 ((h y).2 (by simp)) with e2 | e2
     ·exact e2.symm
     ·have := h2.1 x e; have := h1.1 y e2; omega
   subst hxy
   congr 1
   refine ih h1.2 h2.2 fun z => ⟨fun hz => ?_, fun hz => ?_⟩
   ·rcases List.mem_cons.1 ((h z).1 (by simp [hz])) with e | e
    ·have := h1.1 z hz; omega
    ·exact e
   ·rcases List.mem_cons.1 ((h z).2 (by simp [hz])) with e | e
    ·have := h2.1 z hz; omega
    ·exact e
theorem mem_uni {a b : List Int} {y : Int} : y ∈ uni a b ↔ y ∈ a ∨ y ∈ b := by
 unfold uni
 induction b generalizing a with
 | nil => simp
 | cons z b ih =>
  simp only [List.foldl_cons, ih, mem_ins, List.mem_cons]
  constructor
  ·rintro ((h | h) | h) <;> simp [h]
  ·rintro (h | h | h) <;> simp [h]
theorem srt_uni {a b : List Int} (ha : Srt a) : Srt (uni a b) := by
 unfold uni
 induction b generalizing a with
 | nil => exact ha
 | cons z b ih => exact ih (srt_ins ha)
theorem mem_mns {a b : List Int} {y : Int} : y ∈ mns a b ↔ y ∈ a ∧ y ∉ b := by simp [mns]
theorem srt_mns {a b : List Int} (ha : Srt a) : Srt (mns a b) := List.Pairwise.filter _ ha
theorem len_ins (l : List Int) (x : Int) : (ins l x).length ≤ l.length + 1 := by
 induction l with
 | nil => simp [ins]
 | cons z l ih =>
  simp only [ins]
  split
  ·simp; omega
  ·split <;> simp
theorem srt_len {l : List Int} {n : Nat} (h : Srt l) (hr : ∀ x, x ∈ l → 0 ≤ x ∧ x < n) : l.length ≤ n := by
 have gen : ∀ (l : List Int) (m : Int), Srt l → (∀ x, x ∈ l → m ≤ x ∧ x < n) → (l.length : Int) ≤ max 0 (n - m) := by
  intro l
  induction l with
  | nil => intro m _ _; simp; omega
  | cons x l ih =>
   intro m h hr
   have h1 := List.pairwise_cons.1 h
   have h2 := hr x (by simp)
   have := ih (x + 1) h1.2 (fun y hy => ⟨by have := h1.1 y hy; omega, (hr y (by simp [hy])).2⟩)
   simp only [List.length_cons]; omega
 have := gen l 0 h hr
 omega
def tw (l : List Int) (x : Int) : Nat := (l.takeWhile (fun y => decide (y < x))).length
theorem tw_le (l : List Int) (x : Int) : tw l x ≤ l.length := by
 unfold tw
 induction l with
 | nil => simp
 | cons y l ih => simp only [List.takeWhile_cons]; split <;> simp <;> omega
theorem ins_tw (l : List Int) (x : Int) : ins l x = if l[tw l x]? = some x then l else l.take (tw l x) ++ [x] ++ l.drop (tw l x) := by
 induction l with
 | nil => simp [ins, tw]
 | cons y l ih =>
  simp only [ins]
  by_cases h : y < x
  ·have e : tw (y :: l) x = tw l x + 1 := by simp [tw, List.takeWhile_cons, h]
   rw [if_pos h, e, ih]
   simp only [List.getElem?_cons_succ, List.take_succ_cons, List.drop_succ_cons]
   split <;> simp
  ·have e : tw (y :: l) x = 0 := by simp [tw, List.takeWhile_cons, h]
   rw [if_neg h, e]
   simp
theorem contains_l1 (K : Nat) {l : List Int} {x : Int} (hl : Sm l) : ∀ (m p : List Int) (k : Nat), l = p ++ m → m.length < k → ref32_Contains_l1 K l x k (p.length : Int) = some (if m.contains x then .inr true else .inl ()) := by
 intro m
 induction m with
 | nil =>
  intro p k h hk
  obtain ⟨k, rfl⟩ : ∃ j, k = j + 1 := ⟨k - 1, by omega⟩
  subst h
  simp [ref32_Contains_l1, cnd, inn]
 | cons y m ih =>
  intro p k h hk
  obtain ⟨k, rfl⟩ : ∃ j, k = j + 1 := ⟨k - 1, by omega⟩
  have hg : idx l (p.length : Int) = some y := idx_eq (by subst h; simp)
  have hlt : (p.length : Int) < (l.length : Int) := by subst h; simp; omega
  have hw : w64 ((p.length : Int) + 1) = ((p ++ [y]).length : Int) := by
   rw [w64_id (by omega) (by omega)]; simp
  simp only [ref32_Contains_l1, hlt, decide_true, cnd, hg, Option.bind_some]
  cases hy : y == x with
  | true =>
   have : y = x := by simpa using hy
   simp [out, this]
  | false =>
   have hne : ¬ y = x := by simpa using hy
   simp only [hw]
   rw [ih (p ++ [y]) k (by subst h; simp) (by simp at hk; omega)]
   have : ¬ x = y := fun e => hne e.symm
   simp [this]
theorem ev_contains {l : List Int} {x : Int} (hl : Sm l) : Ev (fun K _ => ref32_Contains K l x) (l.contains x) := by
 have h1 : Ev (fun K _ => ref32_Contains_l1 K l x K 0) (if l.contains x then .inr true else .inl ()) := ⟨l.length + 1, fun K k hK _ => by
  have := contains_l1 K (x := x) hl l [] K rfl (by omega)
  simpa using this⟩
 unfold ref32_Contains
 cases h : l.contains x with
 | true => rw [h] at h1; exact Ev.sqr h1
 | false => rw [h] at h1; exact Ev.sql h1 (Ev.some _)
end Go.Proofs.YtocfnpnnbmicmaaDoor.Tc
end
section
set_option linter.unusedVariables false
set_option linter.unusedSimpArgs false
set_option maxRecDepth 20000
namespace Go.Proofs.YtocfnpnnbmicmaaDoor.Tc
open Go
def info0 : OpInfo := ⟨⟨#[]⟩, 0, false, false, false, false, 0⟩
def opI (op : Int) : OpInfo := if 1 ≤ op ∧ op ≤ 37 then (tableL[(op - 1).toNat]?).getD info0 else info0
theorem table_len : tableL.length = 37 := by unfold tableL; rfl
theorem machine_info (op : Int) : machine_Info op = some (opI op, decide (1 ≤ op ∧ op ≤ 37)) := by
 unfold machine_Info opI
 by_cases h : 1 ≤ op ∧ op ≤ 37
 ·have h1 : (decide (op < 1) || decide (op > 37)) = false := by simp; omega
  have h2 : w64 (op - 1) = ((op - 1).toNat : Int) := by rw [w64_id (by omega) (by omega)]; omega
  have h3 : (op - 1).toNat < tableL.length := by rw [table_len]; omega
  rw [h1, h2, idx_get h3]
  simp only [cnd, h, and_self, if_true, Option.bind_some, List.getElem?_eq_getElem h3, Option.getD_some, decide_true]
 ·have h1 : (decide (op < 1) || decide (op > 37)) = true := by simp; omega
  rw [h1]
  simp only [cnd, h, if_false, info0, decide_false]
def alw (op : Int) : Bool := (op == 3) || (op == 6) || (op == 9) || (op == 10) || (op == 11) || (op == 12) || (op == 13) || (op == 33) || (op == 34) || (op == 35) || (op == 38) || (decide (op ≥ 15) && decide (op ≤ 32))
theorem vallowed (op : Int) : vcode_allowed op = some (alw op) := by
 unfold vcode_allowed alw
 generalize (op == 3) = b1; generalize (op == 6) = b2; generalize (op == 9) = b3; generalize (op == 10) = b4; generalize (op == 11) = b5; generalize (op == 12) = b6; generalize (op == 13) = b7
 generalize (op == 33) = b8; generalize (op == 34) = b9; generalize (op == 35) = b10; generalize (op == 38) = b11; generalize (decide (op ≥ 15) && decide (op ≤ 32)) = b12
 revert b1 b2 b3 b4 b5 b6 b7 b8 b9 b10 b11 b12
 decide +kernel
theorem rallowed (op : Int) : ref32_allowed op = some (alw op) := vallowed op
def opsL : List Int := [3, 6, 9, 10, 11, 12, 13, 15, 16, 17, 18, 19, 20, 21, 22, 23, 24, 25, 26, 27, 28, 29, 30, 31, 32, 33, 34, 35, 38]
theorem alw_mem {op : Int} (h : alw op = true) : op ∈ opsL := by
 simp only [alw, Bool.or_eq_true, beq_iff_eq, Bool.and_eq_true, decide_eq_true_eq] at h
 simp only [opsL, List.mem_cons, List.not_mem_nil, or_false]
 omega
def refI (op : Int) : OpInfo := if op == 38 then ⟨⟨#[]⟩, 5, false, true, false, false, 0⟩ else opI op
theorem ref_all : opsL.all (fun op => decide (ref32_info op = some (refI op))) = true := by kernel_rfl
theorem ref_info {op : Int} (h : alw op = true) : ref32_info op = some (refI op) := of_decide_eq_true (List.all_eq_true.1 ref_all op (alw_mem h))
def rdRaw (v : VInstr) : List Int := (if (opI v.Instr.Op).ReadsA then [v.Instr.A] else []) ++ (if (opI v.Instr.Op).ReadsB then [v.Instr.B] else []) ++ (if (v.Instr.Op == 11) || (v.Instr.Op == 12) then [v.Instr.C] else []) ++ (if v.Instr.Op == 6 then v.Args else [])
def rd (v : VInstr) : List Int := if alw v.Instr.Op then uni [] (rdRaw v) else []
def wr (v : VInstr) : List Int := if alw v.Instr.Op && ((opI v.Instr.Op).WritesA || (v.Instr.Op == 6) || (v.Instr.Op == 38)) then [v.Instr.A] else []
def su (b : Block) : List Int := if b.End == 1 then [b.Target] else if b.End == 2 then ins [b.Target] b.Else else []
def er (b : Block) : List Int := if (b.End == 2) || (b.End == 3) then [b.Reg] else []
theorem srt_nil : Srt [] := List.Pairwise.nil
theorem srt_rd (v : VInstr) : Srt (rd v) := by unfold rd; split; exact srt_uni srt_nil; exact srt_nil
theorem vwrites (v : VInstr) : vcode_Writes v = some (wr v) := by
 unfold vcode_Writes wr
 rw [vallowed, machine_info]
 cases h : alw v.Instr.Op with
 | false => simp [cnd]
 | true => simp only [Option.bind_some, Bool.not_true, cnd, Bool.true_and]; cases ((opI v.Instr.Op).WritesA || (v.Instr.Op == 6) || (v.Instr.Op == 38)) <;> simp
theorem list_1' {α : Type} {l : List α} (h : l.length = 1) : ∃ a, l = [a] := by match l, h with | [a], _ => exact ⟨a, rfl⟩
theorem tw_get {l : List Int} {x : Int} {i : Nat} (h : i < tw l x) : ∃ y, l[i]? = some y ∧ y < x := by
 induction l generalizing i with
 | nil => simp [tw] at h
 | cons y l ih =>
  by_cases hy : y < x
  ·have e : tw (y :: l) x = tw l x + 1 := by simp [tw, List.takeWhile_cons, hy]
   cases i with
   | zero => exact ⟨y, rfl, hy⟩
   | succ i => rw [e] at h; obtain ⟨z, hz, hz2⟩ := ih (i := i) (by omega); exact ⟨z, by simpa using hz, hz2⟩
  ·have e : tw (y :: l) x = 0 := by simp [tw, List.takeWhile_cons, hy]
   omega
theorem tw_ge {l : List Int} {x : Int} (hs : Srt l) {i : Nat} (h : tw l x ≤ i) {y : Int} (hy : l[i]? = some y) : x ≤ y := by
 induction l generalizing i with
 | nil => simp at hy
 | cons z l ih =>
  have h1 := List.pairwise_cons.1 hs
  by_cases hz : z < x
  ·have e : tw (z :: l) x = tw l x + 1 := by simp [tw, List.takeWhile_cons, hz]
   cases i with
   | zero => omega
   | succ i => exact ih h1.2 (i := i) (by omega) (by simpa using hy)
  ·cases i with
   | zero => simp at hy; omega
   | succ i =>
    have := h1.1 y (List.mem_of_getElem? (show l[i]? = some y by simpa using hy))
    omega
theorem unique_l2 (K : Nat) {c : Int} {s : List Int} {x : Int} (hs : Srt s) (hl : Sm s) : ∀ (i k : Nat), i ≤ s.length → tw s x ≤ i → i < k → vcode_unique_l2 K (c, s) x k (i : Int) = some ((tw s x : Nat) : Int) := by
 intro i
 induction i with
 | zero =>
  intro k h1 h2 hk
  obtain ⟨k, rfl⟩ : ∃ j, k = j + 1 := ⟨k - 1, by omega⟩
  have : tw s x = 0 := by omega
  simp [vcode_unique_l2, cnd, this]
 | succ i ih =>
  intro k h1 h2 hk
  obtain ⟨k, rfl⟩ : ∃ j, k = j + 1 := ⟨k - 1, by omega⟩
  have hw : w64 (((i + 1 : Nat) : Int) - 1) = (i : Int) := by rw [w64_id (by omega) (by omega)]; omega
  have hlt : i < s.length := by omega
  have hpos : ((i + 1 : Nat) : Int) > 0 := by omega
  simp only [vcode_unique_l2, hpos, decide_true, cnd, hw, idx_get hlt, Option.bind_some]
  by_cases hy : s[i] ≥ x
  ·simp only [hy, decide_true]
   refine ih k (by omega) ?_ (by omega)
   rcases Nat.lt_or_ge i (tw s x) with q | q
   ·obtain ⟨y, hy1, hy2⟩ := tw_get q
    rw [List.getElem?_eq_getElem hlt] at hy1; cases hy1; omega
   ·exact q
  ·simp only [hy, decide_false]
   have : tw s x = i + 1 := by
    rcases Nat.lt_or_ge i (tw s x) with q | q
    ·omega
    ·exact absurd (tw_ge hs q (List.getElem?_eq_getElem hlt)) (by omega)
   rw [this]
theorem cpy_ins (s : List Int) (x : Int) (k : Nat) (h : k ≤ s.length) : (cpy (s ++ [0]) (k + 1) k).set k x = s.take k ++ [x] ++ s.drop k := by
 have h1 : (s.take k).length = k := by simp; omega
 unfold cpy
 have e1 : min ((s ++ [0]).length - k) ((s ++ [0]).length - (k + 1)) = s.length - k := by simp; omega
 rw [e1]
 have e2 : (s ++ [0]).drop (k + 1 + (s.length - k)) = [] := List.drop_eq_nil_of_le (by simp; omega)
 have e3 : ((s ++ [0]).drop k).take (s.length - k) = s.drop k := by
  rw [List.drop_append_of_le_length h, List.take_append_of_le_length (by simp), List.take_of_length_le (by simp)]
 have e4 : (s ++ [0]).take (k + 1) = s.take k ++ ((s ++ [0]).drop k).take 1 := by
  rw [List.take_add, List.take_append_of_le_length h]
 rw [e2, e3, e4, List.append_nil]
 have h5 : (((s ++ [0]).drop k).take 1).length = 1 := by simp; omega
 obtain ⟨z, hz⟩ := list_1' h5
 rw [hz]
 rw [List.append_assoc, List.set_append_right _ _ (by omega), h1]
 simp
theorem unique_l1 {a : List Int} (ha : Sm a) : ∀ (m p s : List Int), a = p ++ m → Srt s → s.length + m.length ≤ 17592186044000 → Ev (fun K k => vcode_unique_l1 K a k ((p.length : Int), s)) (m.foldl ins s) := by
 intro m
 induction m with
 | nil =>
  intro p s h _ _
  refine Ev.step (fun K k => rfl) (Ev.f ?_ (Ev.some _))
  subst h; simp
 | cons y m ih =>
  intro p s h hs hl
  have hg : idx a (p.length : Int) = some y := idx_eq (by subst h; simp)
  have hlt : (p.length : Int) < (a.length : Int) := by subst h; simp; omega
  have hw : w64 ((p.length : Int) + 1) = ((p ++ [y]).length : Int) := by
   rw [w64_id (by omega) (by omega)]; simp
  simp only [List.length_cons] at hl
  have htl := tw_le s y
  have hln := len_ins s y
  refine Ev.step (fun K k => rfl) (Ev.t (by simpa using hlt) (Ev.bind (x := ins s y) (Ev.bindO hg ?_) ?_))
  ·refine Ev.bind (x := ((tw s y : Nat) : Int)) ⟨s.length + 1, fun K k hK _ => unique_l2 K hs (by omega) s.length K (Nat.le_refl _) htl (by omega)⟩ ?_
   refine Ev.bind (x := decide (s[tw s y]? = some y)) ?_ ?_
   ·refine Ev.cnd (fun h => ?_) (fun h => ?_)
    ·have hlt : tw s y < s.length := by simpa using h
     refine Ev.bindO (idx_get hlt) ((Ev.some _).cast ?_)
     rw [Bool.eq_iff_iff]; simp [List.getElem?_eq_getElem hlt]
    ·refine (Ev.some _).cast ?_
     have : s[tw s y]? = none := List.getElem?_eq_none (by simpa using h)
     simp [this]
   ·rw [ins_tw]
    refine Ev.cnd (fun h => (Ev.some _).cast (by rw [if_pos (of_decide_eq_true h)])) (fun h => ?_)
    rw [if_neg (of_decide_eq_false h)]
    have hw2 : w64 (((tw s y : Nat) : Int) + 1) = ((tw s y + 1 : Nat) : Int) := by rw [w64_id (by omega) (by omega)]; simp
    have hlen : (s ++ [(0 : Int)]).length = s.length + 1 := by simp
    refine Ev.bindO (app_eq (by simp; omega) (by simp; omega)) ?_
    simp only [hw2]
    refine Ev.bindO (subLo_eq (by rw [hlen]; omega)) (Ev.guard (by simp) (Ev.bindO (subLo_eq (by rw [hlen]; omega)) (Ev.guard (by simp) (Ev.guard ?_ ?_))))
    ·simp only [Int.toNat_natCast, hlen, Bool.and_eq_true, decide_eq_true_eq]; omega
    ·simp only [Int.toNat_natCast]
     have hc : (cpy (s ++ [0]) (tw s y + 1) (tw s y)).length = s.length + 1 := by
      have := congrArg List.length (cpy_ins s y (tw s y) htl)
      simp at this; omega
     refine Ev.bindO (idx_get (by rw [hc]; omega)) ((Ev.some _).cast (cpy_ins s y (tw s y) htl))
  ·show Ev (fun K k => vcode_unique_l1 K a k (w64 ((p.length : Int) + 1), ins s y)) _
   rw [hw]
   exact ih (p ++ [y]) (ins s y) (by subst h; simp) (srt_ins hs) (by omega)
theorem ev_unique {a : List Int} (ha : Sm a) : Ev (fun K _ => vcode_unique K a) (uni [] a) := by
 unfold vcode_unique
 refine Ev.bind (Ev.loop ?_) (Ev.some _)
 exact unique_l1 ha a [] [] rfl srt_nil (by simpa using ha)
theorem ev_vreads {v : VInstr} (h : v.Args.length ≤ 100) : Ev (fun K _ => vcode_Reads K v) (rd v) := by
 unfold vcode_Reads rd
 refine Ev.bindO (vallowed _) ?_
 cases ha : alw v.Instr.Op with
 | false => exact Ev.t rfl (Ev.some _)
 | true =>
  refine Ev.f rfl (Ev.bindO (machine_info _) ?_)
  have e : rdRaw v = (((if (opI v.Instr.Op).ReadsA then [v.Instr.A] else []) ++ (if (opI v.Instr.Op).ReadsB then [v.Instr.B] else [])) ++ (if (v.Instr.Op == 11) || (v.Instr.Op == 12) then [v.Instr.C] else [])) ++ (if v.Instr.Op == 6 then v.Args else []) := rfl
  rw [if_pos rfl, e]
  refine Ev.bind (x := if (opI v.Instr.Op).ReadsA then [v.Instr.A] else []) (Ev.ite (fun _ => Ev.bindO (app_eq (by simp) (by simp)) (Ev.some _)) (fun _ => Ev.some _)) ?_
  generalize hs : (if (opI v.Instr.Op).ReadsA then [v.Instr.A] else []) = s
  have hl : s.length ≤ 1 := by rw [← hs]; split <;> simp
  refine Ev.bind (x := s ++ if (opI v.Instr.Op).ReadsB then [v.Instr.B] else []) ?_ ?_
  ·show Ev (fun K k => cnd (opI v.Instr.Op).ReadsB _ _) _
   refine Ev.cnd (fun hb => Ev.bindO (app_eq (by simp; omega) (by simp; omega)) ((Ev.some _).cast (by rw [if_pos hb]))) (fun hb => (Ev.some _).cast (by rw [if_neg (by rw [hb]; simp)]; simp))
  generalize hs2 : (s ++ if (opI v.Instr.Op).ReadsB then [v.Instr.B] else []) = s2
  have hl2 : s2.length ≤ 2 := by rw [← hs2]; split <;> simp <;> omega
  refine Ev.bind (x := s2 ++ if (v.Instr.Op == 11) || (v.Instr.Op == 12) then [v.Instr.C] else []) ?_ ?_
  ·generalize ((v.Instr.Op == 11) || (v.Instr.Op == 12)) = b1
   cases b1 with
   | true => exact Ev.t rfl (Ev.bindO (app_eq (by simp; omega) (by simp; omega)) ((Ev.some _).cast (by simp)))
   | false => exact Ev.f rfl ((Ev.some _).cast (by simp))
  generalize hs3 : (s2 ++ if (v.Instr.Op == 11) || (v.Instr.Op == 12) then [v.Instr.C] else []) = s3
  have hl3 : s3.length ≤ 3 := by
   rw [← hs3]
   generalize ((v.Instr.Op == 11) || (v.Instr.Op == 12)) = b1
   cases b1 <;> simp <;> omega
  generalize (v.Instr.Op == 6) = b6
  refine Ev.bind (x := s3 ++ if b6 then v.Args else []) ?_ ?_
  ·cases b6 with
   | true => exact Ev.t rfl (Ev.bindO (app_eq (by omega) (by omega)) ((Ev.some _).cast (by simp)))
   | false => exact Ev.f rfl ((Ev.some _).cast (by simp))
  refine Ev.bind (ev_unique ?_) (Ev.some _)
  have : (if b6 then v.Args else []).length ≤ 100 := by cases b6 <;> simp; exact h
  unfold Sm; rw [List.length_append]; omega
theorem ev_vsucc (b : Block) : Ev (fun K _ => vcode_Successors K b) (su b) := by
 unfold vcode_Successors su
 refine Ev.ite (fun _ => Ev.some _) (fun _ => Ev.ite (fun _ => Ev.bind (ev_unique (by simp [Sm])) ((Ev.some _).cast ?_)) (fun _ => Ev.some _))
 rfl
end Go.Proofs.YtocfnpnnbmicmaaDoor.Tc
end
section
set_option linter.unusedVariables false
set_option linter.unusedSimpArgs false
set_option maxRecDepth 20000
namespace Go.Proofs.YtocfnpnnbmicmaaDoor.Tc
open Go
def regB (c : VFunc) (n : Int) : Bool := (decide (n ≥ 0)) && (decide (n < c.Regs))
def blkB (c : VFunc) (n : Int) : Bool := (decide (n ≥ 0)) && (decide (n < ((c.Blocks).length : Int)))
def fm (op : Int) : Int := if op == 38 then 5 else (opI op).Form
def fA (f : Int) : Bool := (f == 2) || (f == 3) || (f == 4) || (f == 5) || (f == 7)
def fBb (f : Int) : Bool := (f == 3) || (f == 4) || (f == 7)
def fC (f : Int) : Bool := (f == 4)
def fN (f : Int) : Bool := (f == 5) || (f == 7)
def numB (c : VFunc) (i : Instr) : Bool :=
 if i.Op == 33 then (decide (i.N ≥ (-4194304))) && (decide (i.N < 4194304)) else if i.Op == 6 then (decide (i.N ≥ 0)) && (decide (i.N < 8))
 else if (i.Op == 34) || (i.Op == 35) then (decide (i.N ≥ 0)) && (decide (i.N < 4)) else if i.Op == 38 then (decide (i.N ≥ 0)) && (decide (i.N < c.Params)) else true
def insB (c : VFunc) (v : VInstr) : Bool :=
 if (((!(alw v.Instr.Op)) || (decide (((v.Args).length : Int) > 6))) || ((v.Instr.Op != 6) && (decide (((v.Args).length : Int) > 0)))) then false
 else if v.Args.all (regB c) then
  if (((((((fA (fm v.Instr.Op) && !(regB c v.Instr.A)) || (fBb (fm v.Instr.Op) && !(regB c v.Instr.B))) || (fC (fm v.Instr.Op) && !(regB c v.Instr.C))) || ((!(fA (fm v.Instr.Op))) && (v.Instr.A != 0))) || ((!(fBb (fm v.Instr.Op))) && (v.Instr.B != 0))) || ((!(fC (fm v.Instr.Op))) && (v.Instr.C != 0))) || ((!(fN (fm v.Instr.Op))) && (v.Instr.N != 0))) then false
  else numB c v.Instr
 else false
def endB (c : VFunc) (b : Block) : Bool :=
 if b.End == 1 then (blkB c b.Target && (b.Reg == 0)) && (b.Else == 0) else if b.End == 2 then (blkB c b.Target && blkB c b.Else) && regB c b.Reg
 else if b.End == 3 then (regB c b.Reg && (b.Target == 0)) && (b.Else == 0) else if b.End == 4 then (((decide (b.Target ≥ 1)) && (decide (b.Target < 33554432))) && (b.Reg == 0)) && (b.Else == 0) else false
def headB (c : VFunc) : Bool := ((((((decide (c.Params < 0)) || (decide (c.Params > 6))) || (decide (c.Regs < 0))) || (decide (c.Regs > 3000))) || (decide (((c.Blocks).length : Int) < 1))) || (decide (((c.Blocks).length : Int) > 1000)))
def validB (c : VFunc) : Bool := !(headB c) && c.Blocks.all (fun b => b.Instrs.all (insB c) && endB c b)
theorem vform (op : Int) : vcode_form op = some (fm op) := by
 unfold vcode_form fm
 rw [machine_info]
 cases op == 38 <;> rfl
theorem ev_args {c : VFunc} {v : VInstr} (h : v.Args.length ≤ 6) : ∀ (m p : List Int), v.Args = p ++ m → Ev (fun K k => vcode_validInstr_l1 K c v k (p.length : Int)) (if m.all (regB c) then .inl () else .inr false) := by
 intro m
 induction m with
 | nil =>
  intro p he
  refine Ev.step (fun K k => rfl) (Ev.f ?_ ((Ev.inn ()).cast (by simp)))
  rw [he]; simp
 | cons y m ih =>
  intro p he
  have hg : idx v.Args (p.length : Int) = some y := idx_eq (by rw [he]; simp)
  have hlt : (p.length : Int) < (v.Args.length : Int) := by rw [he]; simp; omega
  have hw : w64 ((p.length : Int) + 1) = ((p ++ [y]).length : Int) := by
   rw [w64_id (by omega) (by omega)]; simp
  refine Ev.step (fun K k => rfl) (Ev.t (by simpa using hlt) (Ev.bindO hg (Ev.bindO (x := regB c y) rfl ?_)))
  cases hy : regB c y with
  | true =>
   refine Ev.f rfl ?_
   rw [hw]
   refine (ih (p ++ [y]) (by rw [he]; simp)).cast ?_
   simp [hy]
  | false => exact Ev.t rfl ((Ev.out (Ev.some false)).cast (by simp [hy]))
theorem ev_vvalidInstr (c : VFunc) (v : VInstr) : Ev (fun K _ => vcode_validInstr K c v) (insB c v) := by
 unfold vcode_validInstr insB
 refine Ev.bindO (vallowed _) (Ev.ite (fun _ => Ev.some _) (fun h0 => ?_))
 have hlen : v.Args.length ≤ 6 := by
  simp only [Bool.or_eq_false_iff, decide_eq_false_iff_not] at h0
  have := h0.1.2; omega
 have hargs : Ev (fun K _ => vcode_validInstr_l1 K c v K 0) _ := Ev.loop (ev_args (c := c) hlen v.Args [] rfl)
 cases ha : v.Args.all (regB c) with
 | false => rw [ha] at hargs; exact Ev.sqr hargs
 | true =>
  rw [ha] at hargs
  refine Ev.sql hargs ?_
  refine Ev.bind (x := (fA (fm v.Instr.Op), fBb (fm v.Instr.Op), fC (fm v.Instr.Op), fN (fm v.Instr.Op))) (Ev.of ?_) ?_
  ·rw [vform]
   simp only [Option.bind_some, fA, fBb, fC, fN]
   generalize fm v.Instr.Op = f
   by_cases h2 : f = 2
   ·subst h2; rfl
   by_cases h3 : f = 3
   ·subst h3; rfl
   by_cases h4 : f = 4
   ·subst h4; rfl
   by_cases h5 : f = 5
   ·subst h5; rfl
   by_cases h7 : f = 7
   ·subst h7; rfl
   rw [show (f == 2) = false by simpa using h2, show (f == 3) = false by simpa using h3, show (f == 4) = false by simpa using h4, show (f == 5) = false by simpa using h5, show (f == 7) = false by simpa using h7]
   rfl
  refine Ev.bind (x := fA (fm v.Instr.Op) && !(regB c v.Instr.A)) (Ev.of ?_) (Ev.bind (x := (fA (fm v.Instr.Op) && !(regB c v.Instr.A)) || (fBb (fm v.Instr.Op) && !(regB c v.Instr.B))) (Ev.of ?_) (Ev.bind (x := ((fA (fm v.Instr.Op) && !(regB c v.Instr.A)) || (fBb (fm v.Instr.Op) && !(regB c v.Instr.B))) || (fC (fm v.Instr.Op) && !(regB c v.Instr.C))) (Ev.of ?_) ?_))
  ·show cnd (fA (fm v.Instr.Op)) (some (!(regB c v.Instr.A))) (some false) = _
   cases fA (fm v.Instr.Op) <;> rfl
  ·show cnd (fA (fm v.Instr.Op) && !(regB c v.Instr.A)) (some true) ((cnd (fBb (fm v.Instr.Op)) (some (!(regB c v.Instr.B))) (some false)).bind some) = _
   cases (fA (fm v.Instr.Op) && !(regB c v.Instr.A)) <;> cases fBb (fm v.Instr.Op) <;> rfl
  ·show cnd ((fA (fm v.Instr.Op) && !(regB c v.Instr.A)) || (fBb (fm v.Instr.Op) && !(regB c v.Instr.B))) (some true) ((cnd (fC (fm v.Instr.Op)) (some (!(regB c v.Instr.C))) (some false)).bind some) = _
   cases ((fA (fm v.Instr.Op) && !(regB c v.Instr.A)) || (fBb (fm v.Instr.Op) && !(regB c v.Instr.B))) <;> cases fC (fm v.Instr.Op) <;> rfl
  refine Ev.ite (fun _ => Ev.some _) (fun _ => ?_)
  unfold numB
  refine Ev.ite (fun _ => Ev.some _) (fun _ => Ev.ite (fun _ => Ev.some _) (fun _ => Ev.bindO (x := (v.Instr.Op == 34) || (v.Instr.Op == 35)) ?_ (Ev.ite (fun _ => Ev.some _) (fun _ => Ev.ite (fun _ => Ev.some _) (fun _ => Ev.some _)))))
  cases v.Instr.Op == 34 <;> rfl
theorem ev_vvalid_l2 {c : VFunc} {b : Block} (hb : Sm b.Instrs) : ∀ (m p : List VInstr), b.Instrs = p ++ m → Ev (fun K k => vcode_Valid_l2 K c b k (p.length : Int)) (if m.all (insB c) then .inl () else .inr (.inr false)) := by
 intro m
 induction m with
 | nil =>
  intro p he
  refine Ev.step (fun K k => rfl) (Ev.f ?_ ((Ev.inn ()).cast (by simp)))
  rw [he]; simp
 | cons y m ih =>
  intro p he
  have hg : idx b.Instrs (p.length : Int) = some y := idx_eq (by rw [he]; simp)
  have hlt : (p.length : Int) < (b.Instrs.length : Int) := by rw [he]; simp; omega
  have hw : w64 ((p.length : Int) + 1) = ((p ++ [y]).length : Int) := by
   rw [w64_id (by omega) (by omega)]; simp
  refine Ev.step (fun K k => rfl) (Ev.t (by simpa using hlt) (Ev.bindO hg (Ev.bind (ev_vvalidInstr c y) ?_)))
  cases hy : insB c y with
  | true =>
   refine Ev.f rfl ?_
   rw [hw]
   refine (ih (p ++ [y]) (by rw [he]; simp)).cast ?_
   simp [hy]
  | false => exact Ev.t rfl ((Ev.out (Ev.out (Ev.some false))).cast (by simp [hy]))
def SmF (c : VFunc) : Prop := Sm c.Blocks ∧ ∀ b, b ∈ c.Blocks → Sm b.Instrs
theorem ev_vvalid_l1 {c : VFunc} (hc : SmF c) : ∀ (m p : List Block), c.Blocks = p ++ m → Ev (fun K k => vcode_Valid_l1 K c k (p.length : Int)) (if m.all (fun b => b.Instrs.all (insB c) && endB c b) then .inl () else .inr false) := by
 have hc1 := hc.1
 intro m
 induction m with
 | nil =>
  intro p he
  refine Ev.step (fun K k => rfl) (Ev.f ?_ ((Ev.inn ()).cast (by simp)))
  rw [he]; simp
 | cons y m ih =>
  intro p he
  have hg : idx c.Blocks (p.length : Int) = some y := idx_eq (by rw [he]; simp)
  have hlt : (p.length : Int) < (c.Blocks.length : Int) := by rw [he]; simp; omega
  have hw : w64 ((p.length : Int) + 1) = ((p ++ [y]).length : Int) := by
   rw [w64_id (by omega) (by omega)]; simp
  have h2 : Ev (fun K _ => vcode_Valid_l2 K c y K 0) _ := Ev.loop (ev_vvalid_l2 (c := c) (hc.2 y (by rw [he]; simp)) y.Instrs [] rfl)
  refine Ev.step (fun K k => rfl) (Ev.t (by simpa using hlt) (Ev.bindO hg ?_))
  cases hi : y.Instrs.all (insB c) with
  | false => rw [hi] at h2; refine (Ev.sqr h2).cast ?_; simp [hi]
  | true =>
   rw [hi] at h2
   refine Ev.sql h2 (Ev.bindO (x := endB c y) ?_ ?_)
   ·have e1 : ∀ n, vcode_Valid_1 n c = some (blkB c n) := fun n => rfl
    have e2 : ∀ n, vcode_Valid_2 n c = some (regB c n) := fun n => rfl
    simp only [e1, e2, Option.bind_some, endB]
    cases y.End == 1 <;> cases y.End == 2 <;> cases y.End == 3 <;> cases y.End == 4 <;> cases blkB c y.Target <;> cases blkB c y.Else <;> rfl
   ·cases hy : endB c y with
    | true =>
     refine Ev.f rfl ?_
     rw [hw]
     refine (ih (p ++ [y]) (by rw [he]; simp)).cast ?_
     simp [hi, hy]
    | false => exact Ev.t rfl ((Ev.out (Ev.some false)).cast (by simp [hi, hy]))
theorem ev_vvalid {c : VFunc} (hc : SmF c) : Ev (fun K _ => vcode_Valid K c) (validB c) := by
 unfold vcode_Valid validB
 have h1 : Ev (fun K _ => vcode_Valid_l1 K c K 0) _ := Ev.loop (ev_vvalid_l1 hc c.Blocks [] rfl)
 show Ev (fun K _ => cnd (headB c) _ _) _
 cases hh : headB c with
 | true => exact Ev.t rfl (Ev.some _)
 | false =>
  refine Ev.f rfl ?_
  cases hb : c.Blocks.all (fun b => b.Instrs.all (insB c) && endB c b) with
  | true => rw [hb] at h1; exact Ev.sql h1 (Ev.some _)
  | false => rw [hb] at h1; exact Ev.sqr h1
theorem form_all : opsL.all (fun op => ((refI op).Form == fm op) && ((fm op != 1) == fA (fm op)) && (fN (fm op) == ((op == 13) || (op == 33) || (op == 6) || (op == 34) || (op == 35) || (op == 38)))) = true := by kernel_rfl
theorem form_eq {op : Int} (h : alw op = true) : (refI op).Form = fm op ∧ (fm op != 1) = fA (fm op) ∧ fN (fm op) = ((op == 13) || (op == 33) || (op == 6) || (op == 34) || (op == 35) || (op == 38)) := by
 have := List.all_eq_true.1 form_all op (alw_mem h)
 simp only [Bool.and_eq_true, beq_iff_eq] at this
 exact ⟨this.1.1, this.1.2, this.2⟩
theorem ev_rargs {c : VFunc} {v : VInstr} (h : v.Args.length ≤ 6) : ∀ (m p : List Int), v.Args = p ++ m → Ev (fun K k => ref32_validInstr_l1 K v c k (p.length : Int)) (if m.all (regB c) then .inl () else .inr false) := by
 intro m
 induction m with
 | nil =>
  intro p he
  refine Ev.step (fun K k => rfl) (Ev.f ?_ ((Ev.inn ()).cast (by simp)))
  rw [he]; simp
 | cons y m ih =>
  intro p he
  have hg : idx v.Args (p.length : Int) = some y := idx_eq (by rw [he]; simp)
  have hlt : (p.length : Int) < (v.Args.length : Int) := by rw [he]; simp; omega
  have hw : w64 ((p.length : Int) + 1) = ((p ++ [y]).length : Int) := by
   rw [w64_id (by omega) (by omega)]; simp
  refine Ev.step (fun K k => rfl) (Ev.t (by simpa using hlt) (Ev.bind (x := !(regB c y)) (Ev.bindO hg (Ev.cnd (fun h1 => (Ev.some _).cast ?_) (fun h1 => Ev.bindO hg ((Ev.some _).cast ?_)))) ?_))
  ·have h2 : y < 0 := by simpa using h1
   have : regB c y = false := by unfold regB; simp; omega
   rw [this]; rfl
  ·have h2 : ¬ y < 0 := by simpa using h1
   unfold regB
   rw [Bool.eq_iff_iff]; simp; omega
  ·cases hy : regB c y with
   | true =>
    refine Ev.f rfl ?_
    rw [hw]
    refine (ih (p ++ [y]) (by rw [he]; simp)).cast ?_
    simp [hy]
   | false => exact Ev.t rfl ((Ev.out (Ev.some false)).cast (by simp [hy]))
theorem roperand (b : Bool) (n : Int) (c : VFunc) : ref32_validOperand b n c.Regs = some (if b then regB c n else n == 0) := by
 unfold ref32_validOperand regB
 cases b <;> rfl
theorem ev_rvalidInstr (c : VFunc) (v : VInstr) : Ev (fun K _ => ref32_validInstr K v c) (insB c v) := by
 unfold ref32_validInstr insB
 have e0 : (((!(alw v.Instr.Op)) || (decide (((v.Args).length : Int) > 6))) || ((v.Instr.Op != 6) && (decide (((v.Args).length : Int) > 0)))) = (((!(alw v.Instr.Op)) || ((v.Instr.Op != 6) && (decide (((v.Args).length : Int) > 0)))) || (decide (((v.Args).length : Int) > 6))) := by
  cases (!(alw v.Instr.Op)) <;> cases (decide (((v.Args).length : Int) > 6)) <;> cases ((v.Instr.Op != 6) && (decide (((v.Args).length : Int) > 0))) <;> rfl
 rw [e0]
 refine Ev.bindO (rallowed _) (Ev.ite (fun _ => Ev.some _) (fun h0 => ?_))
 have hlen : v.Args.length ≤ 6 := by
  simp only [Bool.or_eq_false_iff, decide_eq_false_iff_not] at h0
  have := h0.2; omega
 have hal : alw v.Instr.Op = true := by
  simp only [Bool.or_eq_false_iff, Bool.not_eq_false'] at h0
  exact h0.1.1
 obtain ⟨f1, f2, f3⟩ := form_eq hal
 have hargs : Ev (fun K _ => ref32_validInstr_l1 K v c K 0) _ := Ev.loop (ev_rargs (c := c) hlen v.Args [] rfl)
 cases ha : v.Args.all (regB c) with
 | false => rw [ha] at hargs; exact Ev.sqr hargs
 | true =>
  rw [ha] at hargs
  refine Ev.sql hargs (Ev.bindO (ref_info hal) ?_)
  rw [if_pos rfl]
  have eB : (((fm v.Instr.Op == 3) || (fm v.Instr.Op == 4)) || (fm v.Instr.Op == 7)) = fBb (fm v.Instr.Op) := rfl
  have eC : (fm v.Instr.Op == 4) = fC (fm v.Instr.Op) := rfl
  simp only [f1, f2, eB]
  simp only [eC]
  generalize hpA : (if fA (fm v.Instr.Op) then regB c v.Instr.A else v.Instr.A == 0) = pA
  generalize hpB : (if fBb (fm v.Instr.Op) then regB c v.Instr.B else v.Instr.B == 0) = pB
  generalize hpC : (if fC (fm v.Instr.Op) then regB c v.Instr.C else v.Instr.C == 0) = pC
  have eall : ((((((fA (fm v.Instr.Op) && !(regB c v.Instr.A)) || (fBb (fm v.Instr.Op) && !(regB c v.Instr.B))) || (fC (fm v.Instr.Op) && !(regB c v.Instr.C))) || ((!(fA (fm v.Instr.Op))) && (v.Instr.A != 0))) || ((!(fBb (fm v.Instr.Op))) && (v.Instr.B != 0))) || ((!(fC (fm v.Instr.Op))) && (v.Instr.C != 0))) = (((!pA) || (!pB)) || (!pC)) := by
   subst hpA hpB hpC
   simp only [bne]
   cases fA (fm v.Instr.Op) <;> cases fBb (fm v.Instr.Op) <;> cases fC (fm v.Instr.Op) <;> cases regB c v.Instr.A <;> cases regB c v.Instr.B <;> cases regB c v.Instr.C <;> cases v.Instr.A == 0 <;> cases v.Instr.B == 0 <;> cases v.Instr.C == 0 <;> rfl
  rw [eall]
  refine Ev.bindO ((roperand _ _ c).trans (congrArg some hpA)) (Ev.bind (x := (!pA) || (!pB)) (Ev.of ?_) (Ev.bind (x := ((!pA) || (!pB)) || (!pC)) (Ev.of ?_) ?_))
  ·rw [roperand, hpB]; cases pA <;> rfl
  ·rw [roperand, hpC]; cases pA <;> cases pB <;> rfl
  cases ((!pA) || (!pB)) || (!pC) with
  | true => exact Ev.t rfl (Ev.some _)
  | false =>
   refine Ev.f rfl ?_
   rw [f3]
   unfold numB
   by_cases h13 : v.Instr.Op = 13
   ·rw [h13]; exact Ev.t rfl ((Ev.some _).cast rfl)
   by_cases h33 : v.Instr.Op = 33
   ·rw [h33]; exact Ev.f rfl (Ev.t rfl ((Ev.some _).cast rfl))
   by_cases h6 : v.Instr.Op = 6
   ·rw [h6]; exact Ev.f rfl (Ev.f rfl (Ev.t rfl ((Ev.some _).cast rfl)))
   by_cases h34 : v.Instr.Op = 34
   ·rw [h34]; exact Ev.f rfl (Ev.f rfl (Ev.f rfl (Ev.bindO rfl (Ev.t rfl ((Ev.some _).cast rfl)))))
   by_cases h35 : v.Instr.Op = 35
   ·rw [h35]; exact Ev.f rfl (Ev.f rfl (Ev.f rfl (Ev.bindO rfl (Ev.t rfl ((Ev.some _).cast rfl)))))
   by_cases h38 : v.Instr.Op = 38
   ·rw [h38]; exact Ev.f rfl (Ev.f rfl (Ev.f rfl (Ev.bindO rfl (Ev.f rfl (Ev.t rfl ((Ev.some _).cast rfl))))))
   rw [show (v.Instr.Op == 13) = false by simpa using h13, show (v.Instr.Op == 33) = false by simpa using h33, show (v.Instr.Op == 6) = false by simpa using h6, show (v.Instr.Op == 34) = false by simpa using h34, show (v.Instr.Op == 35) = false by simpa using h35, show (v.Instr.Op == 38) = false by simpa using h38]
   refine Ev.f rfl (Ev.f rfl (Ev.f rfl (Ev.bindO rfl (Ev.f rfl (Ev.f rfl ((Ev.some _).cast ?_))))))
   by_cases hN : v.Instr.N = 0
   ·simp [hN]
   ·have : (v.Instr.N == 0) = false := by simpa using hN
    simp [this, hN]
theorem ev_rvalid_l2 {c : VFunc} {b : Block} (hb : Sm b.Instrs) : ∀ (m p : List VInstr), b.Instrs = p ++ m → Ev (fun K k => ref32_Valid_l2 K c b k (p.length : Int)) (if m.all (insB c) then .inl () else .inr (.inr false)) := by
 intro m
 induction m with
 | nil =>
  intro p he
  refine Ev.step (fun K k => rfl) (Ev.f ?_ ((Ev.inn ()).cast (by simp)))
  rw [he]; simp
 | cons y m ih =>
  intro p he
  have hg : idx b.Instrs (p.length : Int) = some y := idx_eq (by rw [he]; simp)
  have hlt : (p.length : Int) < (b.Instrs.length : Int) := by rw [he]; simp; omega
  have hw : w64 ((p.length : Int) + 1) = ((p ++ [y]).length : Int) := by
   rw [w64_id (by omega) (by omega)]; simp
  refine Ev.step (fun K k => rfl) (Ev.t (by simpa using hlt) (Ev.bindO hg (Ev.bind (ev_rvalidInstr c y) ?_)))
  cases hy : insB c y with
  | true =>
   refine Ev.f rfl ?_
   rw [hw]
   refine (ih (p ++ [y]) (by rw [he]; simp)).cast ?_
   simp [hy]
  | false => exact Ev.t rfl ((Ev.out (Ev.out (Ev.some false))).cast (by simp [hy]))
theorem rvalidEnd (c : VFunc) (b : Block) : ref32_validEnd b c = some (endB c b) := by
 unfold ref32_validEnd endB blkB regB
 have e : (cnd (decide (b.Target ≥ 0)) (cnd (decide (b.Else ≥ 0)) (cnd (decide (b.Reg ≥ 0)) (some ((decide (b.Target < ((c.Blocks).length : Int))), (decide (b.Else < ((c.Blocks).length : Int))), (decide (b.Reg < c.Regs)))) (some ((decide (b.Target < ((c.Blocks).length : Int))), (decide (b.Else < ((c.Blocks).length : Int))), false))) (cnd (decide (b.Reg ≥ 0)) (some ((decide (b.Target < ((c.Blocks).length : Int))), false, (decide (b.Reg < c.Regs)))) (some ((decide (b.Target < ((c.Blocks).length : Int))), false, false)))) (cnd (decide (b.Else ≥ 0)) (cnd (decide (b.Reg ≥ 0)) (some (false, (decide (b.Else < ((c.Blocks).length : Int))), (decide (b.Reg < c.Regs)))) (some (false, (decide (b.Else < ((c.Blocks).length : Int))), false))) (cnd (decide (b.Reg ≥ 0)) (some (false, false, (decide (b.Reg < c.Regs)))) (some (false, false, false))))) = some (decide (b.Target ≥ 0) && decide (b.Target < ((c.Blocks).length : Int)), decide (b.Else ≥ 0) && decide (b.Else < ((c.Blocks).length : Int)), decide (b.Reg ≥ 0) && decide (b.Reg < c.Regs)) := by
  cases decide (b.Target ≥ 0) <;> cases decide (b.Else ≥ 0) <;> cases decide (b.Reg ≥ 0) <;> rfl
 rw [e]
 simp only [Option.bind_some]
 generalize (decide (b.Target ≥ 0) && decide (b.Target < ((c.Blocks).length : Int))) = t
 generalize (decide (b.Else ≥ 0) && decide (b.Else < ((c.Blocks).length : Int))) = f
 generalize (decide (b.Reg ≥ 0) && decide (b.Reg < c.Regs)) = r
 cases b.End == 1 <;> cases b.End == 2 <;> cases b.End == 3 <;> cases b.End == 4 <;> simp only [cnd, Bool.false_eq_true, if_true, if_false, Option.some.injEq] <;> cases t <;> cases b.Else == 0 <;> cases b.Reg == 0 <;> cases r <;> cases f <;> simp
theorem ev_rvalid_l1 {c : VFunc} (hc : SmF c) : ∀ (m p : List Block), c.Blocks = p ++ m → Ev (fun K k => ref32_Valid_l1 K c k (p.length : Int)) (if m.all (fun b => b.Instrs.all (insB c) && endB c b) then .inl () else .inr false) := by
 have hc1 := hc.1
 intro m
 induction m with
 | nil =>
  intro p he
  refine Ev.step (fun K k => rfl) (Ev.f ?_ ((Ev.inn ()).cast (by simp)))
  rw [he]; simp
 | cons y m ih =>
  intro p he
  have hg : idx c.Blocks (p.length : Int) = some y := idx_eq (by rw [he]; simp)
  have hlt : (p.length : Int) < (c.Blocks.length : Int) := by rw [he]; simp; omega
  have hw : w64 ((p.length : Int) + 1) = ((p ++ [y]).length : Int) := by
   rw [w64_id (by omega) (by omega)]; simp
  have h2 : Ev (fun K _ => ref32_Valid_l2 K c y K 0) _ := Ev.loop (ev_rvalid_l2 (c := c) (hc.2 y (by rw [he]; simp)) y.Instrs [] rfl)
  refine Ev.step (fun K k => rfl) (Ev.t (by simpa using hlt) (Ev.bindO hg (Ev.bindO (rvalidEnd c y) ?_)))
  cases hy : endB c y with
  | false => exact Ev.t rfl ((Ev.out (Ev.some false)).cast (by simp [hy]))
  | true =>
   refine Ev.f rfl ?_
   cases hi : y.Instrs.all (insB c) with
   | false => rw [hi] at h2; refine (Ev.sqr h2).cast ?_; simp [hi]
   | true =>
    rw [hi] at h2
    refine Ev.sql h2 ?_
    rw [hw]
    refine (ih (p ++ [y]) (by rw [he]; simp)).cast ?_
    simp [hi, hy]
theorem ev_rvalid {c : VFunc} (hc : SmF c) : Ev (fun K _ => ref32_Valid K c) (validB c) := by
 unfold ref32_Valid validB
 have h1 : Ev (fun K _ => ref32_Valid_l1 K c K 0) _ := Ev.loop (ev_rvalid_l1 hc c.Blocks [] rfl)
 show Ev (fun K _ => cnd (headB c) _ _) _
 cases hh : headB c with
 | true => exact Ev.t rfl (Ev.some _)
 | false =>
  refine Ev.f rfl ?_
  cases hb : c.Blocks.all (fun b => b.Instrs.all (insB c) && endB c b) with
  | true => rw [hb] at h1; exact Ev.sql h1 (Ev.some _)
  | false => rw [hb] at h1; exact Ev.sqr h1
end Go.Proofs.YtocfnpnnbmicmaaDoor.Tc
end
section
set_option linter.unusedVariables false
set_option linter.unusedSimpArgs false
namespace Go.Proofs.YtocfnpnnbmicmaaDoor.Tc
open Go
abbrev U64 (w : Int) : Prop := 0 ≤ w ∧ w < 18446744073709551616
def tb (w : Int) (i : Nat) : Bool := w.toNat.testBit i
theorem u64_id {n : Int} (h : U64 n) : IntKind.u64.wrap n = n := by
 unfold IntKind.wrap
 have e : (2 ^ IntKind.u64.bits : Int) = 18446744073709551616 := by decide
 simp only [e, IntKind.signed, Bool.false_and]
 exact Int.emod_eq_of_lt h.1 h.2
theorem u64_nat {n : Nat} (h : n < 18446744073709551616) : IntKind.u64.wrap (n : Int) = n := u64_id ⟨by omega, by omega⟩
theorem ofInt_nat {w : Int} (h : U64 w) : (BitVec.ofInt 64 w).toNat = w.toNat := by
 rw [BitVec.toNat_ofInt]
 have : w % (2 ^ 64 : Nat) = w := Int.emod_eq_of_lt h.1 (by have := h.2; norm_cast)
 rw [this]
theorem u64_lt {w : Int} (h : U64 w) : w.toNat < 2 ^ 64 := by have := h.1; have := h.2; omega
theorem tb_ge {w : Int} (h : U64 w) {i : Nat} (hi : 64 ≤ i) : tb w i = false := Nat.testBit_lt_two_pow (Nat.lt_of_lt_of_le (u64_lt h) (Nat.pow_le_pow_right (by omega) hi))
theorem tb_zero (i : Nat) : tb 0 i = false := by simp [tb]
theorem bOr_eq {x y : Int} (hx : U64 x) (hy : U64 y) : bOr .u64 x y = ((x.toNat ||| y.toNat : Nat) : Int) := by
 unfold bOr
 show IntKind.u64.wrap ((BitVec.ofInt 64 x ||| BitVec.ofInt 64 y).toNat : Int) = _
 rw [BitVec.toNat_or, ofInt_nat hx, ofInt_nat hy]
 exact u64_nat (Nat.or_lt_two_pow (u64_lt hx) (u64_lt hy))
theorem u64_or {x y : Int} (hx : U64 x) (hy : U64 y) : U64 (bOr .u64 x y) := by
 rw [bOr_eq hx hy]
 have := Nat.or_lt_two_pow (u64_lt hx) (u64_lt hy)
 exact ⟨by omega, by omega⟩
theorem tb_or {x y : Int} (hx : U64 x) (hy : U64 y) (i : Nat) : tb (bOr .u64 x y) i = (tb x i || tb y i) := by
 rw [bOr_eq hx hy]; simp [tb, Nat.testBit_or]
theorem bAndNot_eq {x y : Int} : bAndNot .u64 x y = (((BitVec.ofInt 64 x &&& ~~~ BitVec.ofInt 64 y).toNat : Nat) : Int) := by
 unfold bAndNot
 exact u64_nat (BitVec.isLt _)
theorem u64_andNot {x y : Int} : U64 (bAndNot .u64 x y) := by
 rw [bAndNot_eq]
 have := (BitVec.ofInt 64 x &&& ~~~ BitVec.ofInt 64 y).isLt
 exact ⟨by omega, by omega⟩
theorem getLsb {x : Int} (hx : U64 x) (i : Nat) : (BitVec.ofInt 64 x).getLsbD i = tb x i := by
 rw [BitVec.getLsbD, ofInt_nat hx]; rfl
theorem tb_andNot {x y : Int} (hx : U64 x) (hy : U64 y) (i : Nat) : tb (bAndNot .u64 x y) i = (tb x i && !tb y i) := by
 rw [bAndNot_eq]
 show (BitVec.ofInt 64 x &&& ~~~ BitVec.ofInt 64 y).getLsbD i = _
 rw [BitVec.getLsbD_and, BitVec.getLsbD_not, getLsb hx, getLsb hy]
 by_cases h : i < 64
 ·simp [h]
 ·simp [h, tb_ge hx (by omega : 64 ≤ i)]
theorem tb_ext {x y : Int} (hx : 0 ≤ x) (hy : 0 ≤ y) (h : ∀ i, tb x i = tb y i) : x = y := by
 have : x.toNat = y.toNat := Nat.eq_of_testBit_eq h
 omega
theorem bShl_one {j : Nat} (h : j < 64) : bShl .u64 1 (j : Int) = ((2 ^ j : Nat) : Int) := by
 unfold bShl
 have e : min (j : Int).toNat IntKind.u64.bits = j := by
  have : IntKind.u64.bits = 64 := rfl
  rw [this]; omega
 rw [e]
 have : (1 * 2 ^ j : Int) = ((2 ^ j : Nat) : Int) := by push_cast; omega
 rw [this]
 exact u64_nat (Nat.pow_lt_pow_right (by omega) h)
theorem u64_pow {j : Nat} (h : j < 64) : U64 ((2 ^ j : Nat) : Int) := by
 have h1 : 2 ^ j < 2 ^ 64 := Nat.pow_lt_pow_right (by omega) h
 generalize 2 ^ j = n at h1
 exact ⟨by omega, by omega⟩
theorem tb_pow (i j : Nat) : tb ((2 ^ j : Nat) : Int) i = decide (j = i) := by
 unfold tb
 rw [Int.toNat_natCast, Nat.testBit_two_pow]
theorem bShr_eq {w : Int} (h : U64 w) {b : Nat} (hb : b ≤ 64) : bShr .u64 w (b : Int) = ((w.toNat >>> b : Nat) : Int) := by
 unfold bShr
 have e : min (b : Int).toNat IntKind.u64.bits = b := by
  have : IntKind.u64.bits = 64 := rfl
  rw [this]; omega
 rw [e, Nat.shiftRight_eq_div_pow]
 obtain ⟨n, rfl⟩ : ∃ n : Nat, w = n := ⟨w.toNat, by have := h.1; omega⟩
 have e2 : (2 ^ b : Int) = ((2 ^ b : Nat) : Int) := by push_cast; rfl
 generalize 2 ^ b = m at e2 ⊢
 rw [e2, Int.fdiv_eq_ediv_of_nonneg _ (by omega)]
 simp
theorem bAnd_one {x : Int} (h : U64 x) : (bAnd .u64 x 1 == 1) = tb x 0 := by
 unfold bAnd
 have e : (BitVec.ofInt IntKind.u64.bits x &&& BitVec.ofInt IntKind.u64.bits 1).toNat = x.toNat &&& 1 := by
  show (BitVec.ofInt 64 x &&& BitVec.ofInt 64 1).toNat = _
  rw [BitVec.toNat_and, ofInt_nat h]; rfl
 rw [e, u64_nat (by have : x.toNat &&& 1 ≤ 1 := Nat.and_le_right; omega), Nat.and_one_is_mod]
 unfold tb
 rw [Nat.testBit_zero]
 have : x.toNat % 2 < 2 := Nat.mod_lt _ (by omega)
 rw [Bool.eq_iff_iff]; simp; omega
def W (n : Nat) (ws : List Int) : Prop := ws.length = n ∧ ∀ w, w ∈ ws → U64 w
def wb (ws : List Int) (i : Nat) : Bool := tb (ws.getD (i / 64) 0) (i % 64)
theorem W.get {n : Nat} {ws : List Int} (h : W n ws) {i : Nat} (hi : i < ws.length) : U64 ws[i] := h.2 _ (List.getElem_mem hi)
theorem W.getD {n : Nat} {ws : List Int} (h : W n ws) (i : Nat) : U64 (ws.getD i 0) := by
 rw [List.getD_eq_getElem?_getD]
 rcases Nat.lt_or_ge i ws.length with q | q
 ·rw [List.getElem?_eq_getElem q]; exact h.get q
 ·rw [List.getElem?_eq_none q]; exact ⟨by decide, by decide⟩
theorem W.set {n : Nat} {ws : List Int} (h : W n ws) {i : Nat} {w : Int} (hw : U64 w) : W n (ws.set i w) := ⟨by rw [List.length_set]; exact h.1, fun x hx => by
 rcases List.mem_or_eq_of_mem_set hx with q | q
 ·exact h.2 x q
 ·exact q ▸ hw⟩
theorem div64 {a : Int} (h0 : 0 ≤ a) (h : a < 1000000) : w64 (Int.tdiv a 64) = ((a.toNat / 64 : Nat) : Int) := by
 rw [Int.tdiv_eq_ediv_of_nonneg h0, w64_id (by omega) (by omega)]; omega
theorem mod64 {a : Int} (h0 : 0 ≤ a) : u64 (Int.tmod a 64) = ((a.toNat % 64 : Nat) : Int) := by
 rw [Int.tmod_eq_emod_of_nonneg h0]
 have : a % 64 = ((a.toNat % 64 : Nat) : Int) := by omega
 rw [this]; exact u64_nat (by omega)
structure Rep (n : Nat) (ws l : List Int) : Prop where
 w : W n ws
 s : Srt l
 m : ∀ x, x ∈ l ↔ 0 ≤ x ∧ wb ws x.toNat = true
theorem Rep.lt {n : Nat} {ws l : List Int} (h : Rep n ws l) {x : Int} (hx : x ∈ l) : 0 ≤ x ∧ x < 64 * n := by
 have h1 := (h.m x).1 hx
 refine ⟨h1.1, ?_⟩
 rcases Nat.lt_or_ge (x.toNat / 64) ws.length with q | q
 ·rw [h.w.1] at q; omega
 ·exfalso
  have := h1.2
  unfold wb at this
  rw [List.getD_eq_getElem?_getD, List.getElem?_eq_none q] at this
  simp [tb_zero] at this
theorem Rep.len {n : Nat} {ws l : List Int} (h : Rep n ws l) : l.length ≤ 64 * n := srt_len h.s fun x hx => by have := h.lt hx; omega
theorem Rep.ext {n : Nat} {ws l m : List Int} (h : Rep n ws l) (k : Rep n ws m) : l = m := srt_ext h.s k.s fun x => (h.m x).trans (k.m x).symm
def nw (R : Int) : Nat := (R.toNat + 63) / 64
theorem empty_ok {R : Int} (h0 : 0 ≤ R) (h : R ≤ 3000) : ∃ ws, liveness_empty R = some ws ∧ Rep (nw R) ws [] := by
 refine ⟨List.replicate (nw R) 0, ?_, ⟨⟨by simp, fun w hw => ?_⟩, List.Pairwise.nil, fun x => ?_⟩⟩
 ·unfold liveness_empty
  have e : w64 (R + 63) = R + 63 := w64_id (by omega) (by omega)
  have e2 : (R + 63).toNat / 64 = nw R := by unfold nw; omega
  rw [e, div64 (by omega) (by omega), e2, mk_eq (by unfold nw; omega) (by unfold nw; omega)]
  rfl
 ·rw [List.eq_of_mem_replicate hw]; exact ⟨by decide, by decide⟩
 ·simp only [List.not_mem_nil, false_iff, not_and]
  intro _
  unfold wb
  have : (List.replicate (nw R) (0 : Int)).getD (x.toNat / 64) 0 = 0 := by
   rw [List.getD_eq_getElem?_getD, List.getElem?_replicate]; split <;> rfl
  rw [this, tb_zero]; simp
theorem wb_set {ws : List Int} {i : Nat} {w : Int} (h : i < ws.length) (j : Nat) : wb (ws.set i w) j = if j / 64 = i then tb w (j % 64) else wb ws j := by
 unfold wb
 by_cases e : j / 64 = i
 ·rw [if_pos e, List.getD_eq_getElem?_getD, e, List.getElem?_set_self h]; rfl
 ·rw [if_neg e, List.getD_eq_getElem?_getD, List.getElem?_set_ne (Ne.symm e), ← List.getD_eq_getElem?_getD]
theorem wb_at {ws : List Int} {i : Nat} (h : i / 64 < ws.length) : tb ws[i / 64] (i % 64) = wb ws i := by
 unfold wb; rw [List.getD_eq_getElem?_getD, List.getElem?_eq_getElem h]; rfl
theorem wb_at' {ws : List Int} {i j : Nat} (h : i / 64 < ws.length) (e : j / 64 = i / 64) : tb ws[i / 64] (j % 64) = wb ws j := by
 unfold wb; rw [List.getD_eq_getElem?_getD, e, List.getElem?_eq_getElem h]; rfl
theorem add_ok {R : Int} (hR : R ≤ 3000) {ws l : List Int} (h : Rep (nw R) ws l) {a : Int} (h0 : 0 ≤ a) (ha : a < R) : ∃ ws', liveness_set_add ws a = some ws' ∧ Rep (nw R) ws' (ins l a) := by
 have hlt : a.toNat / 64 < ws.length := by rw [h.w.1]; unfold nw; omega
 have hu := h.w.get hlt
 have hm : a.toNat % 64 < 64 := Nat.mod_lt _ (by omega)
 refine ⟨ws.set (a.toNat / 64) (bOr .u64 ws[a.toNat / 64] (bShl .u64 1 ((a.toNat % 64 : Nat) : Int))), ?_, ?_⟩
 ·unfold liveness_set_add
  rw [div64 h0 (by omega), mod64 h0, idx_get hlt]; rfl
 ·rw [bShl_one hm]
  refine ⟨h.w.set (u64_or hu (u64_pow hm)), srt_ins h.s, fun x => ?_⟩
  rw [mem_ins, h.m, wb_set hlt]
  by_cases e : x.toNat / 64 = a.toNat / 64
  ·rw [if_pos e, tb_or hu (u64_pow hm), tb_pow, wb_at' hlt e]
   simp only [Bool.or_eq_true, decide_eq_true_eq]
   constructor
   ·rintro (rfl | ⟨h1, h2⟩)
    ·exact ⟨h0, .inr rfl⟩
    ·exact ⟨h1, .inl h2⟩
   ·rintro ⟨h1, h2 | h2⟩
    ·exact .inr ⟨h1, h2⟩
    ·left; omega
  ·rw [if_neg e]
   constructor
   ·rintro (rfl | h1)
    ·exact absurd rfl e
    ·exact h1
   ·exact .inr
theorem remove_ok {R : Int} (hR : R ≤ 3000) {ws l : List Int} (h : Rep (nw R) ws l) {a : Int} (h0 : 0 ≤ a) (ha : a < R) : ∃ ws', liveness_set_remove ws a = some ws' ∧ Rep (nw R) ws' (mns l [a]) := by
 have hlt : a.toNat / 64 < ws.length := by rw [h.w.1]; unfold nw; omega
 have hu := h.w.get hlt
 have hm : a.toNat % 64 < 64 := Nat.mod_lt _ (by omega)
 refine ⟨ws.set (a.toNat / 64) (bAndNot .u64 ws[a.toNat / 64] (bShl .u64 1 ((a.toNat % 64 : Nat) : Int))), ?_, ?_⟩
 ·unfold liveness_set_remove
  rw [div64 h0 (by omega), mod64 h0, idx_get hlt]; rfl
 ·rw [bShl_one hm]
  refine ⟨h.w.set u64_andNot, srt_mns h.s, fun x => ?_⟩
  rw [mem_mns, h.m, wb_set hlt, List.mem_singleton]
  by_cases e : x.toNat / 64 = a.toNat / 64
  ·rw [if_pos e, tb_andNot hu (u64_pow hm), tb_pow, wb_at' hlt e]
   simp only [Bool.and_eq_true, Bool.not_eq_true', decide_eq_false_iff_not]
   constructor
   ·rintro ⟨⟨h1, h2⟩, h3⟩
    exact ⟨h1, h2, fun e2 => h3 (by omega)⟩
   ·rintro ⟨h1, h2, h3⟩
    exact ⟨⟨h1, h2⟩, fun e2 => h3 (by rw [e2])⟩
  ·rw [if_neg e]
   constructor
   ·exact fun h => h.1
   ·exact fun h => ⟨h, fun e2 => e (by rw [e2])⟩
def orw (x y : Int) : Int := if bAndNot .u64 y x != 0 then bOr .u64 x y else x
theorem andNot_zero {x y : Int} (hx : U64 x) (hy : U64 y) : (bAndNot .u64 y x != 0) = false ↔ ∀ i, tb y i = true → tb x i = true := by
 constructor
 ·intro h i hi
  have h0 : bAndNot .u64 y x = 0 := by simpa using h
  have := tb_andNot hy hx i
  rw [h0, tb_zero, hi] at this
  simpa using this.symm
 ·intro h
  have : bAndNot .u64 y x = 0 := tb_ext u64_andNot.1 (by omega) fun i => by
   rw [tb_andNot hy hx, tb_zero]
   cases hi : tb y i with
   | false => rfl
   | true => rw [h i hi]; rfl
  simp [this]
theorem tb_orw {x y : Int} (hx : U64 x) (hy : U64 y) (i : Nat) : tb (orw x y) i = (tb x i || tb y i) := by
 unfold orw
 cases h : (bAndNot .u64 y x != 0) with
 | true => exact tb_or hx hy i
 | false =>
  have := (andNot_zero hx hy).1 h i
  cases hi : tb y i with
  | false => simp
  | true => rw [this hi]; simp [this hi]
theorem u64_orw {x y : Int} (hx : U64 x) (hy : U64 y) : U64 (orw x y) := by
 unfold orw; split
 ·exact u64_or hx hy
 ·exact hx
theorem union_l1' {a0 t : List Int} (hn : a0.length ≤ 100) : ∀ (q q2 p p2 : List Int) (m : Bool), a0.length = p.length + q.length → t = p2 ++ q2 → p2.length = p.length → q2.length = q.length →
  Ev (fun K k => liveness_set_union_l1 K a0 t k (m, (p.length : Int), p ++ q)) (m || (List.zipWith (fun x y => bAndNot .u64 y x != 0) q q2).any id, p ++ List.zipWith orw q q2) := by
 intro q
 induction q with
 | nil =>
  intro q2 p p2 m h1 h2 h3 h4
  refine Ev.step (fun K k => rfl) (Ev.f ?_ ((Ev.some _).cast (by simp)))
  simp [h1]
 | cons x q ih =>
  intro q2 p p2 m h1 h2 h3 h4
  match q2, h4 with
  | y :: q2, h4 =>
  simp only [List.length_cons] at h1 h4
  have hg : idx t (p.length : Int) = some y := idx_eq (by rw [h2, ← h3]; simp)
  have hs : idx (p ++ x :: q) (p.length : Int) = some x := idx_eq (by simp)
  have hw : w64 ((p.length : Int) + 1) = ((p ++ [orw x y]).length : Int) := by
   rw [w64_id (by omega) (by omega)]; simp
  refine Ev.step (fun K k => rfl) (Ev.t (by simp [h1]; omega) (Ev.bind (x := (m || (bAndNot .u64 y x != 0), (p ++ [orw x y]) ++ q)) (Ev.bindO hg (Ev.bindO hs ?_)) ?_))
  ·cases hb : (bAndNot .u64 y x != 0) with
   | true => exact Ev.t rfl (Ev.bindO hs (Ev.bindO hg (Ev.bindO hs ((Ev.some _).cast (by simp [orw, hb])))))
   | false => exact Ev.f rfl ((Ev.some _).cast (by simp [orw, hb]))
  ·show Ev (fun K k => liveness_set_union_l1 K a0 t k (_, w64 ((p.length : Int) + 1), _)) _
   rw [hw]
   refine (ih q2 (p ++ [orw x y]) (p2 ++ [y]) _ (by simp; omega) (by simp [h2]) (by simp [h3]) (by omega)).cast ?_
   simp [Bool.or_assoc]
theorem wb_zip {n : Nat} {s t : List Int} (hs : W n s) (ht : W n t) (i : Nat) : wb (List.zipWith orw s t) i = (wb s i || wb t i) := by
 unfold wb
 rcases Nat.lt_or_ge (i / 64) n with q | q
 ·have h1 : i / 64 < s.length := by rw [hs.1]; exact q
  have h2 : i / 64 < t.length := by rw [ht.1]; exact q
  rw [List.getD_eq_getElem?_getD, List.getD_eq_getElem?_getD, List.getD_eq_getElem?_getD, List.getElem?_zipWith, List.getElem?_eq_getElem h1, List.getElem?_eq_getElem h2]
  exact tb_orw (hs.get h1) (ht.get h2) _
 ·rw [List.getD_eq_getElem?_getD, List.getD_eq_getElem?_getD, List.getD_eq_getElem?_getD, List.getElem?_eq_none (show (List.zipWith orw s t).length ≤ i / 64 by simp [hs.1, ht.1]; exact q), List.getElem?_eq_none (show s.length ≤ i / 64 by rw [hs.1]; exact q), List.getElem?_eq_none (show t.length ≤ i / 64 by rw [ht.1]; exact q)]
  simp [tb_zero]
theorem W.zip {n : Nat} {s t : List Int} (hs : W n s) (ht : W n t) : W n (List.zipWith orw s t) := ⟨by simp [hs.1, ht.1], fun w hw => by
 obtain ⟨i, h1, h2⟩ := List.mem_iff_getElem.1 hw
 simp only [List.length_zipWith, Nat.lt_min] at h1
 rw [List.getElem_zipWith] at h2
 exact h2 ▸ u64_orw (hs.get h1.1) (ht.get h1.2)⟩
theorem ev_sunion {n : Nat} (hn : n ≤ 100) {s t l m : List Int} (hs : Rep n s l) (ht : Rep n t m) : ∃ ws, Ev (fun K _ => liveness_set_union K s t) (decide (∃ x, x ∈ m ∧ x ∉ l), ws) ∧ Rep n ws (uni l m) := by
 refine ⟨List.zipWith orw s t, ?_, hs.w.zip ht.w, srt_uni hs.s, fun x => ?_⟩
 ·unfold liveness_set_union
  have h1 : Ev (fun K _ => liveness_set_union_l1 K s t K (false, 0, s)) _ := Ev.loop (union_l1' (by rw [hs.w.1]; exact hn) s t [] [] false (by simp) rfl rfl (by rw [hs.w.1, ht.w.1]))
  refine Ev.bind h1 ((Ev.some _).cast ?_)
  refine Prod.ext ?_ (by simp)
  show (false || (List.zipWith (fun x y => bAndNot .u64 y x != 0) s t).any id) = _
  rw [Bool.false_or, Bool.eq_iff_iff, decide_eq_true_eq, List.any_eq_true]
  constructor
  ·rintro ⟨b, hb, hb2⟩
   obtain ⟨i, h1, h2⟩ := List.mem_iff_getElem.1 hb
   simp only [List.length_zipWith, Nat.lt_min] at h1
   rw [List.getElem_zipWith] at h2
   subst h2
   have hne : ¬ ∀ j, tb t[i] j = true → tb s[i] j = true := fun h => by
    have := (andNot_zero (hs.w.get h1.1) (ht.w.get h1.2)).2 h
    rw [show id (bAndNot .u64 t[i] s[i] != 0) = (bAndNot .u64 t[i] s[i] != 0) from rfl, this] at hb2
    exact absurd hb2 (by simp)
   obtain ⟨j, hj⟩ := Classical.not_forall.1 hne
   obtain ⟨hj1, hj2⟩ := Classical.not_imp.1 hj
   have hj64 : j < 64 := by
    rcases Nat.lt_or_ge j 64 with q | q
    ·exact q
    ·rw [tb_ge (ht.w.get h1.2) q] at hj1; cases hj1
   have e1 : (64 * i + j) / 64 = i := by omega
   have e2 : (64 * i + j) % 64 = j := by omega
   refine ⟨((64 * i + j : Nat) : Int), (ht.m _).2 ⟨by omega, ?_⟩, fun h => hj2 ?_⟩
   ·simp only [Int.toNat_natCast, wb, e1, e2, List.getD_eq_getElem?_getD, List.getElem?_eq_getElem h1.2, Option.getD_some]; exact hj1
   ·have := ((hs.m _).1 h).2
    simp only [Int.toNat_natCast, wb, e1, e2, List.getD_eq_getElem?_getD, List.getElem?_eq_getElem h1.1, Option.getD_some] at this; exact this
  ·rintro ⟨x, hx1, hx2⟩
   obtain ⟨h0, hlt⟩ := ht.lt hx1
   have hb := ((ht.m x).1 hx1).2
   have q1 : x.toNat / 64 < s.length := by rw [hs.w.1]; omega
   have q2 : x.toNat / 64 < t.length := by rw [ht.w.1]; omega
   refine ⟨bAndNot .u64 t[x.toNat / 64] s[x.toNat / 64] != 0, List.mem_iff_getElem.2 ⟨x.toNat / 64, by simp only [List.length_zipWith, Nat.lt_min]; exact ⟨q1, q2⟩, by rw [List.getElem_zipWith]⟩, ?_⟩
   show (bAndNot .u64 t[x.toNat / 64] s[x.toNat / 64] != 0) = true
   cases hc : (bAndNot .u64 t[x.toNat / 64] s[x.toNat / 64] != 0) with
   | true => rfl
   | false =>
    exfalso
    have := (andNot_zero (hs.w.get q1) (ht.w.get q2)).1 hc (x.toNat % 64) (by rw [wb_at q2]; exact hb)
    rw [wb_at q1] at this
    exact hx2 ((hs.m x).2 ⟨h0, this⟩)
 ·rw [mem_uni, hs.m, ht.m, wb_zip hs.w ht.w, Bool.or_eq_true]
  constructor
  ·rintro (h | h)
   ·exact ⟨h.1, .inl h.2⟩
   ·exact ⟨h.1, .inr h.2⟩
  ·rintro ⟨h, h2 | h2⟩
   ·exact .inl ⟨h, h2⟩
   ·exact .inr ⟨h, h2⟩
def wl (k : Nat) (w : Int) (b d : Nat) : List Int := ((List.range' b d).filter (tb w)).map (fun b => ((64 * k + b : Nat) : Int))
def lstF : Nat → List Int → List Int
 | _, [] => []
 | k, w :: ws => wl k w 0 64 ++ lstF (k + 1) ws
theorem wl_len (k : Nat) (w : Int) (b d : Nat) : (wl k w b d).length ≤ d := by
 unfold wl
 rw [List.length_map]
 exact Nat.le_trans (List.length_filter_le _ _) (by simp)
theorem shr_zero {w : Int} (h : U64 w) {b : Nat} (hb : b ≤ 64) : (bShr .u64 w (b : Int) != 0) = false ↔ ∀ i, b ≤ i → tb w i = false := by
 rw [bShr_eq h hb]
 constructor
 ·intro h1 i hi
  have h2 : w.toNat >>> b = 0 := by
   have : ((w.toNat >>> b : Nat) : Int) = 0 := by
    generalize w.toNat >>> b = n at h1 ⊢
    simpa using h1
   omega
  have := congrArg (fun n => n.testBit (i - b)) h2
  simp only [Nat.testBit_shiftRight, Nat.zero_testBit] at this
  unfold tb
  rw [show b + (i - b) = i by omega] at this; exact this
 ·intro h1
  have : w.toNat >>> b = 0 := Nat.eq_of_testBit_eq fun i => by
   rw [Nat.testBit_shiftRight, Nat.zero_testBit]; exact h1 _ (by omega)
  simp [this]
theorem list_l2 {ws : List Int} {n : Nat} (hws : W n ws) (hn : n ≤ 100) {i : Nat} {w : Int} (hi : ws[i]? = some w) (o : List Int) : ∀ (d b : Nat) (s : List Int), b + d = 64 → s.length + d ≤ 10000 →
  Ev (fun K k => liveness_set_list_l2 K ws ((i : Int), o) k ((b : Int), s)) (s ++ wl i w b d) := by
 have hlt : i < ws.length := by
  rcases Nat.lt_or_ge i ws.length with q | q
  ·exact q
  ·rw [List.getElem?_eq_none q] at hi; cases hi
 have hu : U64 w := hws.2 w (List.mem_of_getElem? hi)
 have hg : idx ws (i : Int) = some w := idx_eq hi
 intro d
 induction d with
 | zero =>
  intro b s hb hs
  refine Ev.step (fun K k => rfl) (Ev.bindO hg (Ev.f ?_ ((Ev.some _).cast (by simp [wl]))))
  rw [show u64 (b : Int) = b from u64_nat (by omega)]
  exact (shr_zero hu (by omega)).2 fun i hi => tb_ge hu (by omega)
 | succ d ih =>
  intro b s hb hs
  refine Ev.step (fun K k => rfl) (Ev.bindO hg ?_)
  have eu : u64 (b : Int) = b := u64_nat (by omega)
  have hw : w64 ((b : Int) + 1) = ((b + 1 : Nat) : Int) := by rw [w64_id (by omega) (by omega)]; simp
  simp only [eu]
  refine Ev.cnd (fun h1 => ?_) (fun h1 => ?_)
  ·have hbit : (bAnd .u64 (bShr .u64 w (b : Int)) 1 == 1) = tb w b := by
    have e := bShr_eq hu (b := b) (by omega)
    rw [bAnd_one (by
     rw [e]
     have : w.toNat >>> b ≤ w.toNat := by rw [Nat.shiftRight_eq_div_pow]; exact Nat.div_le_self _ _
     have := u64_lt hu
     generalize w.toNat >>> b = n at *
     exact ⟨by omega, by omega⟩), e]
    unfold tb
    rw [Int.toNat_natCast, Nat.testBit_shiftRight]; rfl
   refine Ev.bind (x := if tb w b then s ++ [((64 * i + b : Nat) : Int)] else s) (Ev.bindO hg ?_) ?_
   ·show Ev (fun K k => cnd (bAnd .u64 (bShr .u64 w (b : Int)) 1 == 1) _ _) _
    rw [hbit]
    refine Ev.cnd (fun h2 => ?_) (fun h2 => ?_)
    ·have e3 : w64 (w64 (64 * (i : Int)) + (b : Int)) = ((64 * i + b : Nat) : Int) := by
      rw [hws.1] at hlt
      rw [w64_id (n := 64 * (i : Int)) (by omega) (by omega), w64_id (by omega) (by omega)]; simp
     simp only [e3, h2, if_true]
     exact Ev.bindO (app_eq (by simp; omega) (by simp; omega)) (Ev.some _)
    ·simp only [h2]; exact Ev.some _
   ·show Ev (fun K k => liveness_set_list_l2 K ws ((i : Int), o) k (w64 ((b : Int) + 1), _)) _
    rw [hw]
    have e4 : wl i w b (d + 1) = (if tb w b then [((64 * i + b : Nat) : Int)] else []) ++ wl i w (b + 1) d := by
     unfold wl
     rw [List.range'_succ, List.filter_cons]
     split <;> simp
    rw [e4]
    cases tb w b with
    | true => refine (ih (b + 1) (s ++ [((64 * i + b : Nat) : Int)]) (by omega) (by simp; omega)).cast ?_; simp
    | false => refine (ih (b + 1) s (by omega) (by omega)).cast ?_; simp
  ·refine (Ev.some _).cast ?_
   have h2 := (shr_zero hu (by omega)).1 h1
   have : wl i w b (d + 1) = [] := by
    unfold wl
    rw [List.filter_eq_nil_iff.2 fun j hj => by
     have := List.mem_range'_1.1 hj
     rw [h2 j this.1]; simp]
    rfl
   rw [this, List.append_nil]
theorem list_l1 {ws : List Int} {n : Nat} (hws : W n ws) (hn : n ≤ 100) : ∀ (q p : List Int) (s : List Int), ws = p ++ q → s.length + 64 * q.length ≤ 10000 →
  Ev (fun K k => liveness_set_list_l1 K ws k ((p.length : Int), s)) (s ++ lstF p.length q) := by
 have hl := hws.1
 intro q
 induction q with
 | nil =>
  intro p s h hs
  refine Ev.step (fun K k => rfl) (Ev.f ?_ ((Ev.some _).cast (by simp [lstF])))
  subst h; simp
 | cons y q ih =>
  intro p s h hs
  have hlt : (p.length : Int) < (ws.length : Int) := by subst h; simp; omega
  simp only [List.length_cons] at hs
  have hw : w64 ((p.length : Int) + 1) = ((p ++ [y]).length : Int) := by
   rw [w64_id (by omega) (by omega)]; simp
  have hwl := wl_len p.length y 0 64
  refine Ev.step (fun K k => rfl) (Ev.t (by simpa using hlt) (Ev.bind (x := s ++ wl p.length y 0 64) (Ev.loop (list_l2 hws hn (i := p.length) (w := y) (by subst h; simp) s 64 0 s rfl (by omega))) ?_))
  show Ev (fun K k => liveness_set_list_l1 K ws k (w64 ((p.length : Int) + 1), _)) _
  rw [hw]
  refine (ih (p ++ [y]) (s ++ wl p.length y 0 64) (by subst h; simp) (by simp; omega)).cast ?_
  simp [lstF]
theorem mem_wl {k : Nat} {w : Int} {x : Int} (hw : U64 w) : x ∈ wl k w 0 64 ↔ 0 ≤ x ∧ x.toNat / 64 = k ∧ tb w (x.toNat % 64) = true := by
 unfold wl
 simp only [List.mem_map, List.mem_filter, List.mem_range'_1]
 constructor
 ·rintro ⟨b, ⟨h1, h2⟩, rfl⟩
  refine ⟨by omega, by omega, ?_⟩
  rw [Int.toNat_natCast, show (64 * k + b) % 64 = b by omega]; exact h2
 ·rintro ⟨h1, h2, h3⟩
  exact ⟨x.toNat % 64, ⟨by omega, h3⟩, by omega⟩
theorem srt_wl {k : Nat} {w : Int} : Srt (wl k w 0 64) := by
 unfold wl Srt
 rw [List.pairwise_map]
 refine List.Pairwise.imp (fun h => by omega) (List.Pairwise.filter _ List.pairwise_lt_range')
theorem mem_lstF {ws : List Int} (hw : ∀ w, w ∈ ws → U64 w) (k : Nat) (x : Int) : x ∈ lstF k ws ↔ 0 ≤ x ∧ k ≤ x.toNat / 64 ∧ tb (ws.getD (x.toNat / 64 - k) 0) (x.toNat % 64) = true := by
 induction ws generalizing k with
 | nil => simp [lstF, tb_zero]
 | cons w ws ih =>
  simp only [lstF, List.mem_append, mem_wl (hw w (by simp)), ih (fun v hv => hw v (by simp [hv]))]
  constructor
  ·rintro (⟨h1, h2, h3⟩ | ⟨h1, h2, h3⟩)
   ·refine ⟨h1, by omega, ?_⟩
    rw [show x.toNat / 64 - k = 0 by omega]; exact h3
   ·refine ⟨h1, by omega, ?_⟩
    rw [show x.toNat / 64 - k = (x.toNat / 64 - (k + 1)) + 1 by omega]; exact h3
  ·rintro ⟨h1, h2, h3⟩
   rcases Nat.eq_or_lt_of_le h2 with q | q
   ·left; refine ⟨h1, q.symm, ?_⟩
    rw [show x.toNat / 64 - k = 0 by omega] at h3; exact h3
   ·right; refine ⟨h1, q, ?_⟩
    rw [show x.toNat / 64 - k = (x.toNat / 64 - (k + 1)) + 1 by omega] at h3; exact h3
theorem srt_lstF {ws : List Int} (hw : ∀ w, w ∈ ws → U64 w) (k : Nat) : Srt (lstF k ws) := by
 induction ws generalizing k with
 | nil => exact List.Pairwise.nil
 | cons w ws ih =>
  refine List.pairwise_append.2 ⟨srt_wl, ih (fun v hv => hw v (by simp [hv])) _, fun a ha b hb => ?_⟩
  have h1 := (mem_wl (hw w (by simp))).1 ha
  have h2 := (mem_lstF (fun v hv => hw v (by simp [hv])) _ _).1 hb
  omega
theorem ev_list {n : Nat} (hn : n ≤ 100) {ws l : List Int} (h : Rep n ws l) : Ev (fun K _ => liveness_set_list K ws) l := by
 have e : lstF 0 ws = l := srt_ext (srt_lstF h.w.2 0) h.s fun x => by
  rw [mem_lstF h.w.2, h.m]; simp [wb]
 unfold liveness_set_list
 refine Ev.bind (Ev.loop (list_l1 h.w hn ws [] [] rfl (by rw [h.w.1]; simp; omega))) ((Ev.some _).cast ?_)
 simpa using e
def tr (v : VInstr) (l : List Int) : List Int := uni (mns l (wr v)) (rd v)
theorem remove_l {R : Int} (hR : R ≤ 3000) {r : List Int} (hr : ∀ x, x ∈ r → 0 ≤ x ∧ x < R) (hl : Sm r) : ∀ (q p : List Int) (ws l : List Int), r = p ++ q → Rep (nw R) ws l →
  ∃ ws', Ev (fun K k => liveness_transfer_l1 K r k ((p.length : Int), ws)) ws' ∧ Rep (nw R) ws' (mns l q) := by
 intro q
 induction q with
 | nil =>
  intro p ws l h h2
  refine ⟨ws, Ev.step (fun K k => rfl) (Ev.f ?_ (Ev.some _)), ?_⟩
  ·subst h; simp
  ·have : mns l [] = l := by simp [mns]
   rw [this]; exact h2
 | cons y q ih =>
  intro p ws l h h2
  have hlt : (p.length : Int) < (r.length : Int) := by subst h; simp; omega
  have hg : idx r (p.length : Int) = some y := idx_eq (by subst h; simp)
  have hw : w64 ((p.length : Int) + 1) = ((p ++ [y]).length : Int) := by
   rw [w64_id (by omega) (by omega)]; simp
  have hy := hr y (by subst h; simp)
  obtain ⟨w1, e1, r1⟩ := remove_ok hR h2 hy.1 hy.2
  obtain ⟨w2, e2, r2⟩ := ih (p ++ [y]) w1 _ (by subst h; simp) r1
  refine ⟨w2, Ev.step (fun K k => rfl) (Ev.t (by simpa using hlt) (Ev.bindO hg (Ev.bindO e1 ?_))), ?_⟩
  ·rw [hw]; exact e2
  ·have : mns l (y :: q) = mns (mns l [y]) q := by
    unfold mns
    rw [List.filter_filter]
    congr 1; funext x
    cases hx : (x == y) <;> simp [List.contains_cons, hx, Bool.and_comm]
   rw [this]; exact r2
theorem add_l {R : Int} (hR : R ≤ 3000) {r : List Int} (hr : ∀ x, x ∈ r → 0 ≤ x ∧ x < R) (hl : Sm r) : ∀ (q p : List Int) (ws l : List Int), r = p ++ q → Rep (nw R) ws l →
  ∃ ws', Ev (fun K k => liveness_transfer_l2 K r k ((p.length : Int), ws)) ws' ∧ Rep (nw R) ws' (uni l q) := by
 intro q
 induction q with
 | nil =>
  intro p ws l h h2
  refine ⟨ws, Ev.step (fun K k => rfl) (Ev.f ?_ (Ev.some _)), h2⟩
  subst h; simp
 | cons y q ih =>
  intro p ws l h h2
  have hlt : (p.length : Int) < (r.length : Int) := by subst h; simp; omega
  have hg : idx r (p.length : Int) = some y := idx_eq (by subst h; simp)
  have hw : w64 ((p.length : Int) + 1) = ((p ++ [y]).length : Int) := by
   rw [w64_id (by omega) (by omega)]; simp
  have hy := hr y (by subst h; simp)
  obtain ⟨w1, e1, r1⟩ := add_ok hR h2 hy.1 hy.2
  obtain ⟨w2, e2, r2⟩ := ih (p ++ [y]) w1 _ (by subst h; simp) r1
  refine ⟨w2, Ev.step (fun K k => rfl) (Ev.t (by simpa using hlt) (Ev.bindO hg (Ev.bindO e1 ?_))), r2⟩
  rw [hw]; exact e2
end Go.Proofs.YtocfnpnnbmicmaaDoor.Tc
end
section
set_option linter.unusedVariables false
set_option linter.unusedSimpArgs false
namespace Go.Proofs.YtocfnpnnbmicmaaDoor.Tc
open Go
theorem regB_iff {c : VFunc} {n : Int} : regB c n = true ↔ 0 ≤ n ∧ n < c.Regs := by unfold regB; simp
theorem blkB_iff {c : VFunc} {n : Int} : blkB c n = true ↔ 0 ≤ n ∧ n < (c.Blocks.length : Int) := by unfold blkB; simp
theorem use_all : opsL.all (fun op => ((!(opI op).ReadsA) || fA (fm op)) && ((!(opI op).ReadsB) || fBb (fm op)) && ((!((op == 11) || (op == 12))) || fC (fm op)) && ((!((opI op).WritesA || (op == 6) || (op == 38))) || fA (fm op))) = true := by kernel_rfl
theorem use_eq {op : Int} (h : alw op = true) : ((opI op).ReadsA = true → fA (fm op) = true) ∧ ((opI op).ReadsB = true → fBb (fm op) = true) ∧ (((op == 11) || (op == 12)) = true → fC (fm op) = true) ∧ (((opI op).WritesA || (op == 6) || (op == 38)) = true → fA (fm op) = true) := by
 have h1 := List.all_eq_true.1 use_all op (alw_mem h)
 rw [Bool.and_eq_true, Bool.and_eq_true, Bool.and_eq_true] at h1
 have gen : ∀ a b : Bool, ((!a) || b) = true → a = true → b = true := by decide
 exact ⟨gen _ _ h1.1.1.1, gen _ _ h1.1.1.2, gen _ _ h1.1.2, gen _ _ h1.2⟩
structure InsV (c : VFunc) (v : VInstr) : Prop where
 a : alw v.Instr.Op = true
 n : v.Args.length ≤ 6
 r : ∀ x, x ∈ rd v → 0 ≤ x ∧ x < c.Regs
 w : ∀ x, x ∈ wr v → 0 ≤ x ∧ x < c.Regs
 g : ∀ x, x ∈ v.Args → 0 ≤ x ∧ x < c.Regs
 o : v.Instr.Op ≠ 6 → v.Args = []
theorem ite_false {b c : Bool} (h : (if b then false else c) = true) : b = false ∧ c = true := by
 cases b
 ·exact ⟨rfl, by simpa using h⟩
 ·simp at h
theorem ite_false' {b c : Bool} (h : (if b then c else false) = true) : b = true ∧ c = true := by
 cases b
 ·simp at h
 ·exact ⟨rfl, by simpa using h⟩
theorem insV {c : VFunc} {v : VInstr} (h : insB c v = true) : InsV c v := by
 unfold insB at h
 obtain ⟨h1, h2⟩ := ite_false h
 obtain ⟨h3, h4⟩ := ite_false' h2
 obtain ⟨h5, _⟩ := ite_false h4
 simp only [Bool.or_eq_false_iff] at h1 h5
 have ha : alw v.Instr.Op = true := by simpa using h1.1.1
 have hn : v.Args.length ≤ 6 := by have := h1.1.2; simp at this; omega
 have hg : ∀ x, x ∈ v.Args → 0 ≤ x ∧ x < c.Regs := fun x hx => regB_iff.1 (List.all_eq_true.1 h3 x hx)
 have gen : ∀ a b : Bool, (a && !b) = false → a = true → b = true := by decide
 have hA := gen _ _ h5.1.1.1.1.1.1
 have hB := gen _ _ h5.1.1.1.1.1.2
 have hC := gen _ _ h5.1.1.1.1.2
 obtain ⟨u1, u2, u3, u4⟩ := use_eq ha
 refine ⟨ha, hn, fun x hx => ?_, fun x hx => ?_, hg, fun h6 => ?_⟩
 ·unfold rd at hx
  rw [if_pos ha] at hx
  rcases mem_uni.1 hx with e | e
  ·simp at e
  ·unfold rdRaw at e
   simp only [List.mem_append] at e
   rcases e with ((e | e) | e) | e
   ·cases hc : (opI v.Instr.Op).ReadsA with
    | true => rw [hc] at e; rw [List.mem_singleton.1 e]; exact regB_iff.1 (hA (u1 hc))
    | false => rw [hc] at e; simp at e
   ·cases hc : (opI v.Instr.Op).ReadsB with
    | true => rw [hc] at e; rw [List.mem_singleton.1 e]; exact regB_iff.1 (hB (u2 hc))
    | false => rw [hc] at e; simp at e
   ·cases hc : ((v.Instr.Op == 11) || (v.Instr.Op == 12)) with
    | true => rw [hc] at e; rw [List.mem_singleton.1 e]; exact regB_iff.1 (hC (u3 hc))
    | false => rw [hc] at e; simp at e
   ·cases hc : (v.Instr.Op == 6) with
    | true => rw [hc] at e; exact hg x (by simpa using e)
    | false => rw [hc] at e; simp at e
 ·unfold wr at hx
  rw [ha, Bool.true_and] at hx
  cases hc : ((opI v.Instr.Op).WritesA || (v.Instr.Op == 6) || (v.Instr.Op == 38)) with
  | true => rw [hc] at hx; rw [List.mem_singleton.1 hx]; exact regB_iff.1 (hA (u4 hc))
  | false => rw [hc] at hx; simp at hx
 ·have h7 := h1.2
  have : (v.Instr.Op != 6) = true := by simpa using h6
  rw [this, Bool.true_and] at h7
  have h8 : v.Args.length = 0 := by have := of_decide_eq_false h7; omega
  exact List.eq_nil_of_length_eq_zero h8
structure Vd (c : VFunc) : Prop where
 v : validB c = true
 s : ∀ b, b ∈ c.Blocks → b.Instrs.length ≤ 2199023255552
def blk0 : Block := ⟨[], 0, 0, 0, 0⟩
def bk (c : VFunc) (k : Nat) : Block := c.Blocks.getD k blk0
theorem bk_get {c : VFunc} {k : Nat} (h : k < c.Blocks.length) : c.Blocks[k]? = some (bk c k) := by
 unfold bk; rw [List.getD_eq_getElem?_getD, List.getElem?_eq_getElem h]; rfl
theorem bk_mem {c : VFunc} {k : Nat} (h : k < c.Blocks.length) : bk c k ∈ c.Blocks := List.mem_of_getElem? (bk_get h)
theorem bk_idx {c : VFunc} {k : Nat} (h : k < c.Blocks.length) : idx c.Blocks (k : Int) = some (bk c k) := idx_eq (bk_get h)
structure HeadV (c : VFunc) : Prop where
 p0 : 0 ≤ c.Params
 p1 : c.Params ≤ 6
 r0 : 0 ≤ c.Regs
 r1 : c.Regs ≤ 3000
 b0 : 1 ≤ c.Blocks.length
 b1 : c.Blocks.length ≤ 1000
theorem validB_iff {c : VFunc} : validB c = true ↔ headB c = false ∧ ∀ b, b ∈ c.Blocks → (∀ v, v ∈ b.Instrs → insB c v = true) ∧ endB c b = true := by
 unfold validB
 simp only [Bool.and_eq_true, Bool.not_eq_true', List.all_eq_true]
theorem headV_iff {c : VFunc} : headB c = false ↔ HeadV c := by
 unfold headB
 simp only [Bool.or_eq_false_iff, decide_eq_false_iff_not]
 constructor
 ·rintro ⟨⟨⟨⟨⟨a, b⟩, d⟩, e⟩, f⟩, g⟩
  exact ⟨by omega, by omega, by omega, by omega, by omega, by omega⟩
 ·rintro ⟨a, b, d, e, f, g⟩
  omega
theorem Vd.h {c : VFunc} (h : Vd c) : HeadV c := headV_iff.1 (validB_iff.1 h.v).1
theorem Vd.sm {c : VFunc} (h : Vd c) : SmF c := ⟨by have := h.h.b1; unfold Sm; omega, fun b hb => by have := h.s b hb; unfold Sm; omega⟩
theorem Vd.i {c : VFunc} (h : Vd c) {k : Nat} (hk : k < c.Blocks.length) {v : VInstr} (hv : v ∈ (bk c k).Instrs) : InsV c v := insV (((validB_iff.1 h.v).2 _ (bk_mem hk)).1 v hv)
theorem Vd.len {c : VFunc} (h : Vd c) {k : Nat} (hk : k < c.Blocks.length) : (bk c k).Instrs.length ≤ 2199023255552 := h.s _ (bk_mem hk)
structure EndV (c : VFunc) (b : Block) : Prop where
 s : ∀ t, t ∈ su b → 0 ≤ t ∧ t < (c.Blocks.length : Int)
 e : ∀ x, x ∈ er b → 0 ≤ x ∧ x < c.Regs
 o : b.End = 1 ∨ b.End = 2 ∨ b.End = 3 ∨ b.End = 4
theorem endV {c : VFunc} {b : Block} (h : endB c b = true) : EndV c b := by
 unfold endB at h
 by_cases h1 : b.End = 1
 ·simp only [h1, beq_self_eq_true, if_true, Bool.and_eq_true] at h
  refine ⟨fun t ht => ?_, fun x hx => ?_, .inl h1⟩
  ·simp [su, h1] at ht; subst ht; exact blkB_iff.1 h.1.1
  ·simp [er, h1] at hx
 by_cases h2 : b.End = 2
 ·simp [h2] at h
  refine ⟨fun t ht => ?_, fun x hx => ?_, .inr (.inl h2)⟩
  ·have ht : t ∈ ins [b.Target] b.Else := by simpa [su, h2] using ht
   rw [mem_ins, List.mem_singleton] at ht
   rcases ht with rfl | rfl
   ·exact blkB_iff.1 h.1.2
   ·exact blkB_iff.1 h.1.1
  ·simp [er, h2] at hx; subst hx; exact regB_iff.1 h.2
 by_cases h3 : b.End = 3
 ·simp [h3] at h
  refine ⟨fun t ht => ?_, fun x hx => ?_, .inr (.inr (.inl h3))⟩
  ·simp [su, h3] at ht
  ·simp [er, h3] at hx; subst hx; exact regB_iff.1 h.1.1
 by_cases h4 : b.End = 4
 ·refine ⟨fun t ht => ?_, fun x hx => ?_, .inr (.inr (.inr h4))⟩
  ·simp [su, h4] at ht
  ·simp [er, h4] at hx
 ·rw [if_neg (by simpa using h1), if_neg (by simpa using h2), if_neg (by simpa using h3), if_neg (by simpa using h4)] at h; cases h
theorem Vd.e {c : VFunc} (h : Vd c) {k : Nat} (hk : k < c.Blocks.length) : EndV c (bk c k) := endV ((validB_iff.1 h.v).2 _ (bk_mem hk)).2
theorem su_len (b : Block) : (su b).length ≤ 2 := by
 unfold su
 split
 ·simp
 ·split
  ·have := len_ins [b.Target] b.Else; simpa using this
  ·simp
theorem Vd.suc {c : VFunc} (h : Vd c) {k : Nat} (hk : k < c.Blocks.length) {t : Int} (ht : t ∈ su (bk c k)) : t.toNat < c.Blocks.length := by have := (h.e hk).s t ht; omega
def blkIn (b : Block) (o : List Int) : List Int := b.Instrs.foldr tr (uni o (er b))
def U (b : Block) (f : Nat → List Int) : List Int := (su b).foldl (fun a t => uni a (f t.toNat)) []
theorem mem_tr {v : VInstr} {l : List Int} {x : Int} : x ∈ tr v l ↔ (x ∈ l ∧ x ∉ wr v) ∨ x ∈ rd v := by
 unfold tr; rw [mem_uni, mem_mns]
theorem srt_tr {v : VInstr} {l : List Int} (h : Srt l) : Srt (tr v l) := srt_uni (srt_mns h)
theorem srt_foldr {vs : List VInstr} {l : List Int} (h : Srt l) : Srt (vs.foldr tr l) := by
 induction vs with
 | nil => exact h
 | cons v vs ih => exact srt_tr ih
theorem srt_blkIn {b : Block} {o : List Int} (h : Srt o) : Srt (blkIn b o) := srt_foldr (srt_uni h)
theorem mem_ufold {f : Nat → List Int} {x : Int} : ∀ (q a : List Int), x ∈ q.foldl (fun a t => uni a (f t.toNat)) a ↔ x ∈ a ∨ ∃ t, t ∈ q ∧ x ∈ f t.toNat := by
 intro q
 induction q with
 | nil => simp
 | cons t q ih =>
  intro a
  simp only [List.foldl_cons, ih, mem_uni, List.mem_cons]
  constructor
  ·rintro ((h | h) | ⟨t2, h1, h2⟩)
   ·exact .inl h
   ·exact .inr ⟨t, .inl rfl, h⟩
   ·exact .inr ⟨t2, .inr h1, h2⟩
  ·rintro (h | ⟨t2, rfl | h1, h2⟩)
   ·exact .inl (.inl h)
   ·exact .inl (.inr h2)
   ·exact .inr ⟨t2, h1, h2⟩
theorem srt_ufold {f : Nat → List Int} : ∀ (q a : List Int), Srt a → Srt (q.foldl (fun a t => uni a (f t.toNat)) a) := by
 intro q
 induction q with
 | nil => exact fun _ h => h
 | cons t q ih => exact fun a h => ih _ (srt_uni h)
theorem mem_U {b : Block} {f : Nat → List Int} {x : Int} : x ∈ U b f ↔ ∃ t, t ∈ su b ∧ x ∈ f t.toNat := by
 unfold U; rw [mem_ufold]; simp
theorem srt_U (b : Block) (f : Nat → List Int) : Srt (U b f) := srt_ufold _ _ List.Pairwise.nil
theorem mem_foldr {e o : List Int} {x : Int} (vs : List VInstr) : x ∈ vs.foldr tr (uni o e) ↔ x ∈ vs.foldr tr (uni [] e) ∨ (x ∈ o ∧ ∀ v, v ∈ vs → x ∉ wr v) := by
 induction vs with
 | nil => simp [mem_uni, or_comm]
 | cons v vs ih =>
  simp only [List.foldr_cons, mem_tr, ih, List.mem_cons, forall_eq_or_imp]
  constructor
  ·rintro (⟨h1 | h1, h2⟩ | h)
   ·exact .inl (.inl ⟨h1, h2⟩)
   ·exact .inr ⟨h1.1, h2, h1.2⟩
   ·exact .inl (.inr h)
  ·rintro ((⟨h1, h2⟩ | h) | ⟨h1, h2, h3⟩)
   ·exact .inl ⟨.inl h1, h2⟩
   ·exact .inr h
   ·exact .inl ⟨.inr ⟨h1, h3⟩, h2⟩
theorem mem_blkIn {b : Block} {o : List Int} {x : Int} : x ∈ blkIn b o ↔ x ∈ blkIn b [] ∨ (x ∈ o ∧ ∀ v, v ∈ b.Instrs → x ∉ wr v) := mem_foldr _
theorem mem_gen {vs : List VInstr} {l : List Int} {x : Int} (h : x ∈ vs.foldr tr l) : x ∈ l ∨ ∃ v, v ∈ vs ∧ x ∈ rd v := by
 induction vs with
 | nil => exact .inl h
 | cons v vs ih =>
  rcases mem_tr.1 h with ⟨h1, _⟩ | h1
  ·rcases ih h1 with h2 | ⟨w, h2, h3⟩
   ·exact .inl h2
   ·exact .inr ⟨w, by simp [h2], h3⟩
  ·exact .inr ⟨v, by simp, h1⟩
inductive Live (c : VFunc) : Nat → Int → Prop
 | gen {k : Nat} {x : Int} : k < c.Blocks.length → x ∈ blkIn (bk c k) [] → Live c k x
 | thru {k : Nat} {x t : Int} : k < c.Blocks.length → (∀ v, v ∈ (bk c k).Instrs → x ∉ wr v) → t ∈ su (bk c k) → Live c t.toNat x → Live c k x
theorem Live.reg {c : VFunc} (h : Vd c) {k : Nat} {x : Int} (hl : Live c k x) : 0 ≤ x ∧ x < c.Regs := by
 induction hl with
 | gen hk hx =>
  rcases mem_gen hx with h1 | ⟨v, h1, h2⟩
  ·rcases mem_uni.1 h1 with h2 | h2
   ·simp at h2
   ·exact (h.e hk).e _ h2
  ·exact (h.i hk h1).r _ h2
 | thru _ _ _ _ ih => exact ih
open Classical in
noncomputable def LI (c : VFunc) (k : Nat) : List Int := ((List.range c.Regs.toNat).map (fun n : Nat => (n : Int))).filter (fun x => decide (Live c k x))
noncomputable def LO (c : VFunc) (k : Nat) : List Int := U (bk c k) (LI c)
theorem srt_LI (c : VFunc) (k : Nat) : Srt (LI c k) := by
 unfold LI Srt
 refine List.Pairwise.filter _ ?_
 rw [List.pairwise_map]
 exact List.Pairwise.imp (fun h => by omega) List.pairwise_lt_range
theorem srt_LO (c : VFunc) (k : Nat) : Srt (LO c k) := srt_U _ _
theorem mem_LI {c : VFunc} (h : Vd c) {k : Nat} {x : Int} : x ∈ LI c k ↔ Live c k x := by
 unfold LI
 simp only [List.mem_filter, List.mem_map, List.mem_range, decide_eq_true_eq]
 constructor
 ·exact fun h => h.2
 ·intro hl
  have := hl.reg h
  exact ⟨⟨x.toNat, by omega, by omega⟩, hl⟩
theorem live_iff {c : VFunc} {k : Nat} (hk : k < c.Blocks.length) {x : Int} : Live c k x ↔ x ∈ blkIn (bk c k) [] ∨ ((∃ t, t ∈ su (bk c k) ∧ Live c t.toNat x) ∧ ∀ v, v ∈ (bk c k).Instrs → x ∉ wr v) := by
 constructor
 ·intro h
  cases h with
  | gen _ h => exact .inl h
  | thru _ h1 h2 h3 => exact .inr ⟨⟨_, h2, h3⟩, h1⟩
 ·rintro (h | ⟨⟨t, h1, h2⟩, h3⟩)
  ·exact .gen hk h
  ·exact .thru hk h3 h1 h2
theorem LI_eq {c : VFunc} (h : Vd c) {k : Nat} (hk : k < c.Blocks.length) : LI c k = blkIn (bk c k) (LO c k) := by
 refine srt_ext (srt_LI c k) (srt_blkIn (srt_LO c k)) fun x => ?_
 rw [mem_LI h, mem_blkIn, live_iff hk]
 unfold LO
 rw [mem_U]
 simp only [mem_LI h]
theorem LI_of {c : VFunc} (h : Vd c) {I : Nat → List Int} (h1 : ∀ k, k < c.Blocks.length → Srt (I k) ∧ ∀ x, x ∈ I k → Live c k x) (h2 : ∀ k, k < c.Blocks.length → I k = blkIn (bk c k) (U (bk c k) I)) (k : Nat) (hk : k < c.Blocks.length) : I k = LI c k := by
 refine srt_ext (h1 k hk).1 (srt_LI c k) fun x => ?_
 rw [mem_LI h]
 refine ⟨(h1 k hk).2 x, fun hl => ?_⟩
 clear h1
 induction hl with
 | gen h3 h4 => rw [h2 _ h3, mem_blkIn]; exact .inl h4
 | thru h3 h4 h5 h6 ih =>
  rw [h2 _ h3, mem_blkIn, mem_U]
  exact .inr ⟨⟨_, h5, ih (h.suc h3 h5)⟩, h4⟩
theorem U_congr {b : Block} {f g : Nat → List Int} (h : ∀ t, t ∈ su b → f t.toNat = g t.toNat) : U b f = U b g := by
 unfold U
 have : ∀ (q : List Int), (∀ t, t ∈ q → f t.toNat = g t.toNat) → ∀ a : List Int, q.foldl (fun a t => uni a (f t.toNat)) a = q.foldl (fun a t => uni a (g t.toNat)) a := by
  intro q
  induction q with
  | nil => exact fun _ _ => rfl
  | cons t q ih => intro h a; simp only [List.foldl_cons]; rw [h t (by simp), ih (fun t ht => h t (by simp [ht]))]
 exact this _ h []
theorem blkIn_mono {b : Block} {l m : List Int} (h : ∀ x, x ∈ l → x ∈ m) {x : Int} (hx : x ∈ blkIn b l) : x ∈ blkIn b m := by
 rw [mem_blkIn] at hx ⊢
 rcases hx with h1 | ⟨h1, h2⟩
 ·exact .inl h1
 ·exact .inr ⟨h _ h1, h2⟩
def fup (I : Nat → List Int) (k : Nat) (l : List Int) : Nat → List Int := fun j => if j = k then l else I j
theorem fup_self (I : Nat → List Int) (k : Nat) (l : List Int) : fup I k l k = l := by simp [fup]
theorem fup_ne (I : Nat → List Int) {k j : Nat} (l : List Int) (h : j ≠ k) : fup I k l j = I j := by simp [fup, h]
def tot (n : Nat) (I : Nat → List Int) : Nat := ((List.range n).map (fun k => (I k).length)).sum
theorem tot_succ (n : Nat) (I : Nat → List Int) : tot (n + 1) I = tot n I + (I n).length := by
 unfold tot; rw [List.range_succ]; simp
theorem tot_congr {n : Nat} {I J : Nat → List Int} (h : ∀ k, k < n → I k = J k) : tot n I = tot n J := by
 unfold tot
 congr 1
 exact List.map_congr_left fun k hk => by rw [h k (List.mem_range.1 hk)]
theorem tot_fup {n : Nat} (I : Nat → List Int) {k : Nat} (hk : k < n) (l : List Int) : tot n (fup I k l) + (I k).length = tot n I + l.length := by
 induction n with
 | zero => omega
 | succ n ih =>
  rw [tot_succ, tot_succ]
  rcases Nat.lt_or_ge k n with q | q
  ·have := ih q
   rw [fup_ne I l (by omega : n ≠ k)]; omega
  ·have : k = n := by omega
   subst this
   rw [fup_self, tot_congr (J := I) fun j hj => fup_ne I l (by omega)]; omega
theorem tot_le {n m : Nat} {I : Nat → List Int} (h : ∀ k, k < n → (I k).length ≤ m) : tot n I ≤ n * m := by
 induction n with
 | zero => simp [tot]
 | succ n ih =>
  rw [tot_succ, Nat.succ_mul]
  have := ih fun k hk => h k (by omega)
  have := h n (by omega)
  omega
structure Inv (c : VFunc) (I O : Nat → List Int) : Prop where
 si : ∀ k, k < c.Blocks.length → Srt (I k)
 so : ∀ k, k < c.Blocks.length → Srt (O k)
 li : ∀ k, k < c.Blocks.length → ∀ x, x ∈ I k → Live c k x
 oo : ∀ k, k < c.Blocks.length → ∀ x, x ∈ O k → x ∈ U (bk c k) I
 ii : ∀ k, k < c.Blocks.length → ∀ x, x ∈ I k → x ∈ blkIn (bk c k) (U (bk c k) I)
theorem Inv.start (c : VFunc) : Inv c (fun _ => []) (fun _ => []) := ⟨fun _ _ => List.Pairwise.nil, fun _ _ => List.Pairwise.nil, fun _ _ _ h => by simp at h, fun _ _ _ h => by simp at h, fun _ _ _ h => by simp at h⟩
theorem Inv.len {c : VFunc} (h : Vd c) {I O : Nat → List Int} (hi : Inv c I O) {k : Nat} (hk : k < c.Blocks.length) : (I k).length ≤ c.Regs.toNat := srt_len (hi.si k hk) fun x hx => by have := (hi.li k hk x hx).reg h; have := h.h.r0; omega
theorem Inv.step {c : VFunc} (h : Vd c) {I O : Nat → List Int} (hi : Inv c I O) {k : Nat} (hk : k < c.Blocks.length) : Inv c (fup I k (blkIn (bk c k) (U (bk c k) I))) (fup O k (U (bk c k) I)) := by
 have grow : ∀ j, j < c.Blocks.length → ∀ x, x ∈ I j → x ∈ fup I k (blkIn (bk c k) (U (bk c k) I)) j := fun j hj x hx => by
  by_cases e : j = k
  ·subst e; rw [fup_self]; exact hi.ii _ hk x hx
  ·rw [fup_ne _ _ e]; exact hx
 have growU : ∀ j, j < c.Blocks.length → ∀ x, x ∈ U (bk c j) I → x ∈ U (bk c j) (fup I k (blkIn (bk c k) (U (bk c k) I))) := fun j hj x hx => by
  obtain ⟨t, h1, h2⟩ := mem_U.1 hx
  exact mem_U.2 ⟨t, h1, grow _ (h.suc hj h1) x h2⟩
 refine ⟨fun j hj => ?_, fun j hj => ?_, fun j hj x hx => ?_, fun j hj x hx => ?_, fun j hj x hx => ?_⟩
 ·by_cases e : j = k
  ·subst e; rw [fup_self]; exact srt_blkIn (srt_U _ _)
  ·rw [fup_ne _ _ e]; exact hi.si j hj
 ·by_cases e : j = k
  ·subst e; rw [fup_self]; exact srt_U _ _
  ·rw [fup_ne _ _ e]; exact hi.so j hj
 ·by_cases e : j = k
  ·subst e; rw [fup_self] at hx
   rcases mem_blkIn.1 hx with h1 | ⟨h1, h2⟩
   ·exact .gen hk h1
   ·obtain ⟨t, h3, h4⟩ := mem_U.1 h1
    exact .thru hk h2 h3 (hi.li _ (h.suc hk h3) x h4)
  ·rw [fup_ne _ _ e] at hx; exact hi.li j hj x hx
 ·by_cases e : j = k
  ·subst e; rw [fup_self] at hx; exact growU _ hj x hx
  ·rw [fup_ne _ _ e] at hx; exact growU j hj x (hi.oo j hj x hx)
 ·by_cases e : j = k
  ·subst e; rw [fup_self] at hx; exact blkIn_mono (growU _ hj) hx
  ·rw [fup_ne _ _ e] at hx; exact blkIn_mono (growU j hj) (hi.ii j hj x hx)
theorem srt_sub_len {a b : List Int} (ha : Srt a) (hb : Srt b) (h : ∀ x, x ∈ a → x ∈ b) : a.length ≤ b.length ∧ (a.length = b.length → a = b) := by
 induction b generalizing a with
 | nil =>
  have : a = [] := List.eq_nil_iff_forall_not_mem.2 fun x hx => by simpa using h x hx
  subst this; exact ⟨by simp, fun _ => rfl⟩
 | cons y b ih =>
  cases a with
  | nil => exact ⟨by simp, fun h => by simp at h⟩
  | cons x a =>
   have h1 := List.pairwise_cons.1 ha
   have h2 := List.pairwise_cons.1 hb
   have hsub : ∀ z, z ∈ a → z ∈ b := fun z hz => by
    rcases List.mem_cons.1 (h z (by simp [hz])) with e | e
    ·subst e
     exfalso
     have hx := h1.1 _ hz
     rcases List.mem_cons.1 (h x (by simp)) with e2 | e2
     ·omega
     ·have := h2.1 x e2; omega
    ·exact e
   obtain ⟨h3, h4⟩ := ih h1.2 h2.2 hsub
   refine ⟨by simp; omega, fun hl => ?_⟩
   have h5 := h4 (by simpa using hl)
   subst h5
   rcases List.mem_cons.1 (h x (by simp)) with e | e
   ·rw [e]
   ·exact absurd (h1.1 x e) (by omega)
structure Pass (c : VFunc) (I0 I O : Nat → List Int) (m : Bool) (j : Nat) : Prop where
 inv : Inv c I O
 le : tot c.Blocks.length I0 ≤ tot c.Blocks.length I
 same : m = false → (∀ k, k < c.Blocks.length → I k = I0 k) ∧ ∀ k, j ≤ k → k < c.Blocks.length → O k = U (bk c k) I ∧ I k = blkIn (bk c k) (U (bk c k) I)
theorem Pass.done {c : VFunc} (h : Vd c) {I0 I O : Nat → List Int} (hp : Pass c I0 I O false 0) : (∀ k, k < c.Blocks.length → I k = LI c k) ∧ ∀ k, k < c.Blocks.length → O k = LO c k := by
 obtain ⟨h1, h2⟩ := hp.same rfl
 have e := LI_of h (fun k hk => ⟨hp.inv.si k hk, hp.inv.li k hk⟩) (fun k hk => (h2 k (by omega) hk).2)
 refine ⟨e, fun k hk => ?_⟩
 rw [(h2 k (by omega) hk).1]
 exact U_congr fun t ht => e _ (h.suc hk ht)
theorem Pass.next {c : VFunc} (h : Vd c) {I0 I O : Nat → List Int} {m m' : Bool} {j : Nat} (hj : j < c.Blocks.length) (hp : Pass c I0 I O m (j + 1)) (hm : m' = false → m = false ∧ blkIn (bk c j) (U (bk c j) I) = I j) :
  Pass c I0 (fup I j (blkIn (bk c j) (U (bk c j) I))) (fup O j (U (bk c j) I)) m' j := by
 refine ⟨hp.inv.step h hj, ?_, fun hm' => ?_⟩
 ·have h1 := tot_fup I hj (blkIn (bk c j) (U (bk c j) I))
  have h2 := (srt_sub_len (hp.inv.si j hj) (srt_blkIn (srt_U _ _)) (hp.inv.ii j hj)).1
  have := hp.le; omega
 ·obtain ⟨h1, h2⟩ := hm hm'
  obtain ⟨h3, h4⟩ := hp.same h1
  have e : fup I j (blkIn (bk c j) (U (bk c j) I)) = I := by
   funext k; unfold fup; split
   ·rename_i hk; subst hk; exact h2
   ·rfl
  rw [e]
  refine ⟨h3, fun k hk1 hk2 => ?_⟩
  by_cases ek : k = j
  ·subst ek; rw [fup_self]; exact ⟨rfl, h2.symm⟩
  ·rw [fup_ne _ _ ek]; exact h4 k (by omega) hk2
end Go.Proofs.YtocfnpnnbmicmaaDoor.Tc
end
section
set_option linter.unusedVariables false
set_option linter.unusedSimpArgs false
namespace Go.Proofs.YtocfnpnnbmicmaaDoor.Tc
open Go
theorem nw_le {R : Int} (h : R ≤ 3000) : nw R ≤ 100 := by unfold nw; omega
theorem transfer_ok {c : VFunc} (h : Vd c) {v : VInstr} (hv : InsV c v) {ws l : List Int} (hr : Rep (nw c.Regs) ws l) : ∃ ws', Ev (fun K _ => liveness_transfer K ws v) ws' ∧ Rep (nw c.Regs) ws' (tr v l) := by
 have hlr : (rd v).length ≤ c.Regs.toNat := srt_len (srt_rd v) fun x hx => by have := hv.r x hx; have := h.h.r0; omega
 have hlw : (wr v).length ≤ 1 := by unfold wr; split <;> simp
 have hR := h.h.r1
 obtain ⟨w1, e1, r1⟩ := remove_l hR hv.w (by unfold Sm; omega) (wr v) [] ws l rfl hr
 obtain ⟨w2, e2, r2⟩ := add_l hR hv.r (by unfold Sm; omega) (rd v) [] w1 _ rfl r1
 refine ⟨w2, ?_, r2⟩
 unfold liveness_transfer
 exact Ev.bindO (vwrites v) (Ev.bind (Ev.loop e1) (Ev.bind (ev_vreads (by have := hv.n; omega)) (Ev.bind (Ev.loop e2) (Ev.some _))))
theorem addTerm_ok {c : VFunc} (h : Vd c) {b : Block} (hb : EndV c b) {ws l : List Int} (hr : Rep (nw c.Regs) ws l) : ∃ ws', liveness_addTerminator ws b = some ws' ∧ Rep (nw c.Regs) ws' (uni l (er b)) := by
 unfold liveness_addTerminator
 cases he : ((b.End == 2) || (b.End == 3)) with
 | false => exact ⟨ws, rfl, by rw [show er b = [] by unfold er; rw [he]; rfl]; exact hr⟩
 | true =>
  have e : er b = [b.Reg] := by unfold er; rw [he]; rfl
  have h1 := hb.e b.Reg (by rw [e]; simp)
  obtain ⟨w1, e1, r1⟩ := add_ok h.h.r1 hr h1.1 h1.2
  refine ⟨w1, ?_, by rw [e]; exact r1⟩
  simp only [cnd, e1, Option.bind_some]
theorem block_l5 {c : VFunc} (h : Vd c) {b : Block} (hb : b.Instrs.length ≤ 2199023255552) (hv : ∀ v, v ∈ b.Instrs → InsV c v) : ∀ (n : Nat) (p q : List VInstr) (ws l : List Int), p.length = n → b.Instrs = p ++ q → Rep (nw c.Regs) ws l →
  ∃ ws', Ev (fun K k => liveness_analyze_l5 K b k ((n : Int) - 1, ws)) ws' ∧ Rep (nw c.Regs) ws' (p.foldr tr l) := by
 intro n
 induction n with
 | zero =>
  intro p q ws l hp he hr
  have : p = [] := List.eq_nil_of_length_eq_zero hp
  subst this
  exact ⟨ws, Ev.step (fun K k => rfl) (Ev.f (by simp) (Ev.some _)), hr⟩
 | succ n ih =>
  intro p q ws l hp he hr
  obtain ⟨p', v, rfl⟩ : ∃ p' v, p = p' ++ [v] := ⟨p.dropLast, p.getLast (by intro e; subst e; simp at hp), (List.dropLast_concat_getLast _).symm⟩
  have hl : p'.length = n := by simpa using hp
  have hin : b.Instrs.length = n + 1 + q.length := by rw [he]; simp; omega
  obtain ⟨w1, e1, r1⟩ := transfer_ok h (hv v (by rw [he]; simp)) hr
  obtain ⟨w2, e2, r2⟩ := ih p' (v :: q) w1 _ hl (by rw [he]; simp) r1
  have hg : idx b.Instrs (((n + 1 : Nat) : Int) - 1) = some v := by
   rw [show ((n + 1 : Nat) : Int) - 1 = (n : Int) by omega]
   refine idx_eq ?_
   rw [he, ← hl]; simp
  have hw : w64 (((n + 1 : Nat) : Int) - 1 - 1) = (n : Int) - 1 := by rw [w64_id (by omega) (by omega)]; omega
  refine ⟨w2, Ev.step (fun K k => rfl) (Ev.t (by simp) (Ev.bindO hg (Ev.bind e1 ?_))), by rw [List.foldr_append]; exact r2⟩
  rw [hw]; exact e2
structure RepS (n w : Nat) (rows : List (List Int)) (I : Nat → List Int) : Prop where
 l : rows.length = n
 r : ∀ k, k < n → ∃ ws, rows[k]? = some ws ∧ Rep w ws (I k)
theorem RepS.set {n w : Nat} {rows : List (List Int)} {I : Nat → List Int} (h : RepS n w rows I) {k : Nat} (hk : k < n) {ws l : List Int} (hr : Rep w ws l) : RepS n w (rows.set k ws) (fup I k l) := ⟨by rw [List.length_set]; exact h.l, fun j hj => by
 by_cases e : j = k
 ·subst e; rw [fup_self]; exact ⟨ws, List.getElem?_set_self (by rw [h.l]; exact hk), hr⟩
 ·rw [fup_ne _ _ e, List.getElem?_set_ne (Ne.symm e)]; exact h.r j hj⟩
theorem sets_same {α : Type} {l : List α} {k : Nat} {x : α} (h : l[k]? = some x) : l.set k x = l := by
 refine List.ext_getElem? fun j => ?_
 by_cases e : j = k
 ·subst e
  rw [List.getElem?_set_self (by
   rcases Nat.lt_or_ge j l.length with q | q
   ·exact q
   ·rw [List.getElem?_eq_none q] at h; cases h), h]
 ·rw [List.getElem?_set_ne (Ne.symm e)]
theorem fup_fup (I : Nat → List Int) (k : Nat) (a b : List Int) : fup (fup I k a) k b = fup I k b := by
 funext j; unfold fup; split <;> rfl
theorem fup_same (I : Nat → List Int) (k : Nat) : fup I k (I k) = I := by
 funext j; unfold fup; split
 ·rename_i h; rw [h]
 ·rfl
theorem analyze_l4 {c : VFunc} (h : Vd c) {I : Nat → List Int} {s : Bool × Int × List (List Int) × List (List Int)} {r : List Int} (hr : ∀ t, t ∈ r → 0 ≤ t ∧ t < (c.Blocks.length : Int)) (hr2 : r.length ≤ 2) {j : Nat} (hj : j < c.Blocks.length) (hs : s.2.1 = (j : Int)) {ins : List (List Int)} (hI : RepS c.Blocks.length (nw c.Regs) ins I) : ∀ (q p : List Int) (outs : List (List Int)) (O : Nat → List Int), r = p ++ q → RepS c.Blocks.length (nw c.Regs) outs O →
  ∃ outs', Ev (fun K k => liveness_analyze_l4 K s r k ((p.length : Int), outs, ins)) (outs', ins) ∧ RepS c.Blocks.length (nw c.Regs) outs' (fup O j (q.foldl (fun a t => uni a (I t.toNat)) (O j))) := by
 intro q
 induction q with
 | nil =>
  intro p outs O he hO
  refine ⟨outs, Ev.step (fun K k => rfl) (Ev.f ?_ (Ev.some _)), ?_⟩
  ·subst he; simp
  ·simp only [List.foldl_nil, fup_same]; exact hO
 | cons t q ih =>
  intro p outs O he hO
  have hlt : (p.length : Int) < (r.length : Int) := by subst he; simp; omega
  have hg : idx r (p.length : Int) = some t := idx_eq (by subst he; simp)
  have hw : w64 ((p.length : Int) + 1) = ((p ++ [t]).length : Int) := by
   rw [w64_id (by omega) (by omega)]; simp
  have ht := hr t (by subst he; simp)
  obtain ⟨wo, ho1, ho2⟩ := hO.r j hj
  obtain ⟨wi, hi1, hi2⟩ := hI.r t.toNat (by omega)
  obtain ⟨w1, e1, r1⟩ := ev_sunion (nw_le h.h.r1) ho2 hi2
  obtain ⟨o2, e2, r2⟩ := ih (p ++ [t]) (outs.set j w1) _ (by subst he; simp) (hO.set hj r1)
  have hgt : idx ins t = some wi := by
   have := idx_eq hi1
   rwa [show ((t.toNat : Nat) : Int) = t by omega] at this
  refine ⟨o2, Ev.step (fun K k => rfl) (Ev.t (by simpa using hlt) (Ev.bindO hg (Ev.bindO (x := wo) (by rw [hs]; exact idx_eq ho1) (Ev.bindO hgt (Ev.bind e1 ?_))))), ?_⟩
  ·show Ev (fun K k => liveness_analyze_l4 K s r k (w64 ((p.length : Int) + 1), outs.set s.2.1.toNat w1, ins.set t.toNat wi)) _
   rw [hw, hs, sets_same hi1]; exact e2
  ·rw [fup_fup, fup_self] at r2; exact r2
theorem ufold_inv {c : VFunc} {I O : Nat → List Int} (hi : Inv c I O) {j : Nat} (hj : j < c.Blocks.length) : (su (bk c j)).foldl (fun a t => uni a (I t.toNat)) (O j) = U (bk c j) I := by
 refine srt_ext (srt_ufold _ _ (hi.so j hj)) (srt_U _ _) fun x => ?_
 rw [mem_ufold]
 constructor
 ·rintro (h1 | h1)
  ·exact hi.oo j hj x h1
  ·exact mem_U.2 h1
 ·exact fun h1 => .inr (mem_U.1 h1)
theorem uni_inv {c : VFunc} {I O : Nat → List Int} (hi : Inv c I O) {j : Nat} (hj : j < c.Blocks.length) : uni (I j) (blkIn (bk c j) (U (bk c j) I)) = blkIn (bk c j) (U (bk c j) I) := by
 refine srt_ext (srt_uni (hi.si j hj)) (srt_blkIn (srt_U _ _)) fun x => ?_
 rw [mem_uni]
 exact ⟨fun h => h.elim (hi.ii j hj x) id, .inr⟩
theorem app_nil {bytes : Nat} {l : List Int} (h : l.length * bytes ≤ 140737488355328) (h2 : l.length ≤ 281474976710656) : app bytes ([] : List Int) l = some l := by
 rw [app_eq (by simpa using h) (by simpa using h2)]; simp
theorem analyze_l3 {c : VFunc} (h : Vd c) {I0 : Nat → List Int} : ∀ (n : Nat) (m : Bool) (ins outs : List (List Int)) (I O : Nat → List Int), n ≤ c.Blocks.length → Pass c I0 I O m n → (m = true → tot c.Blocks.length I0 < tot c.Blocks.length I) → RepS c.Blocks.length (nw c.Regs) ins I → RepS c.Blocks.length (nw c.Regs) outs O →
  ∃ m' ins' outs' I' O', Ev (fun K k => liveness_analyze_l3 K c k (m, (n : Int) - 1, outs, ins)) (m', outs', ins') ∧ Pass c I0 I' O' m' 0 ∧ (m' = true → tot c.Blocks.length I0 < tot c.Blocks.length I') ∧ RepS c.Blocks.length (nw c.Regs) ins' I' ∧ RepS c.Blocks.length (nw c.Regs) outs' O' := by
 have hb1 := h.h.b1
 have hnw := nw_le h.h.r1
 intro n
 induction n with
 | zero =>
  intro m ins outs I O hn hp hm hI hO
  exact ⟨m, ins, outs, I, O, Ev.step (fun K k => rfl) (Ev.f (by simp) (Ev.some _)), hp, hm, hI, hO⟩
 | succ n ih =>
  intro m ins outs I O hn hp hm hI hO
  have hk : n < c.Blocks.length := hn
  have hidx : ((n + 1 : Nat) : Int) - 1 = (n : Int) := by omega
  have hw : w64 ((n : Int) - 1) = (n : Int) - 1 := w64_id (by omega) (by omega)
  obtain ⟨o1, e1, r1⟩ := analyze_l4 h (I := I) (s := (m, (n : Int), outs, ins)) (h.e hk).s (su_len _) hk rfl hI (su (bk c n)) [] outs O rfl hO
  rw [ufold_inv hp.inv hk] at r1
  obtain ⟨wo, ho1, ho2⟩ := r1.r n hk
  rw [fup_self] at ho2
  obtain ⟨w2, e2, r2⟩ := addTerm_ok h (h.e hk) ho2
  obtain ⟨w3, e3, r3⟩ := block_l5 h (h.len hk) (fun v hv => h.i hk hv) _ (bk c n).Instrs [] w2 _ rfl (by simp) r2
  have r3' : Rep (nw c.Regs) w3 (blkIn (bk c n) (U (bk c n) I)) := r3
  obtain ⟨wi, hi1, hi2⟩ := hI.r n hk
  obtain ⟨w4, e4, r4⟩ := ev_sunion hnw hi2 r3'
  rw [uni_inv hp.inv hk] at r4
  have hlen := h.len hk
  have hwl : w64 (((bk c n).Instrs.length : Int) - 1) = ((bk c n).Instrs.length : Int) - 1 := w64_id (by omega) (by omega)
  let d : Bool := decide (∃ x, x ∈ blkIn (bk c n) (U (bk c n) I) ∧ x ∉ I n)
  have hd : d = false → blkIn (bk c n) (U (bk c n) I) = I n := fun hd => by
   have hd := of_decide_eq_false hd
   refine srt_ext (srt_blkIn (srt_U _ _)) (hp.inv.si n hk) fun x => ⟨fun hx => ?_, hp.inv.ii n hk x⟩
   exact Classical.byContradiction fun hc => hd ⟨x, hx, hc⟩
  have hp' : Pass c I0 _ _ (m || d) n := hp.next h hk (m' := m || d) fun hf => by
   simp only [Bool.or_eq_false_iff] at hf
   exact ⟨hf.1, hd hf.2⟩
  have hm' : (m || d) = true → tot c.Blocks.length I0 < tot c.Blocks.length (fup I n (blkIn (bk c n) (U (bk c n) I))) := fun hf => by
   have h1 := tot_fup I hk (blkIn (bk c n) (U (bk c n) I))
   have h2 := srt_sub_len (hp.inv.si n hk) (srt_blkIn (srt_U (bk c n) I)) (hp.inv.ii n hk)
   cases hmm : m with
   | true => have := hm hmm; omega
   | false =>
    rw [hmm, Bool.false_or] at hf
    obtain ⟨x, h3, h4⟩ := of_decide_eq_true hf
    have h5 : (I n).length ≠ (blkIn (bk c n) (U (bk c n) I)).length := fun e => h4 (by rw [h2.2 e]; exact h3)
    have := hp.le; omega
  obtain ⟨m', ins', outs', I', O', e5, h5⟩ := ih (m || d) (ins.set n w4) o1 _ _ (by omega) hp' hm' (hI.set hk r4) r1
  refine ⟨m', ins', outs', I', O', Ev.step (fun K k => rfl) (Ev.t (by simp) (Ev.bind (x := (m || d, o1, ins.set n w4)) ?_ ?_)), h5⟩
  ·simp only [hidx]
   refine Ev.bindO (bk_idx hk) (Ev.bind (ev_vsucc _) (Ev.bind (Ev.loop e1) (Ev.bindO (x := wo) (idx_eq ho1) (Ev.bindO (app_nil (by rw [ho2.w.1]; omega) (by rw [ho2.w.1]; omega)) (Ev.bindO e2 ?_)))))
   simp only [hwl]
   refine Ev.bind (Ev.loop e3) (Ev.bindO (x := wi) (idx_eq hi1) (Ev.bind e4 ?_))
   simp only [Int.toNat_natCast, sets_same ho1]
   refine Ev.cnd (fun hc => ?_) (fun hc => ?_)
   ·have : d = true := hc
    exact (Ev.some _).cast (by rw [this]; simp)
   ·have : d = false := hc
    exact (Ev.some _).cast (by rw [this]; simp)
  ·show Ev (fun K k => liveness_analyze_l3 K c k (m || d, w64 (((n + 1 : Nat) : Int) - 1 - 1), o1, ins.set n w4)) _
   rw [hidx, hw]; exact e5
theorem tot_bound {c : VFunc} (h : Vd c) {I O : Nat → List Int} (hi : Inv c I O) : tot c.Blocks.length I ≤ 3000000 := by
 have h1 := tot_le (n := c.Blocks.length) (m := 3000) (I := I) fun k hk => by have := hi.len h hk; have := h.h.r1; omega
 have := h.h.b1; omega
theorem analyze_l2 {c : VFunc} (h : Vd c) : ∀ (B : Nat) (ins outs : List (List Int)) (I O : Nat → List Int), 3000000 ≤ tot c.Blocks.length I + B → Inv c I O → RepS c.Blocks.length (nw c.Regs) ins I → RepS c.Blocks.length (nw c.Regs) outs O →
  ∃ ins' outs', Ev (fun K k => liveness_analyze_l2 K c k (true, outs, ins)) (outs', ins') ∧ RepS c.Blocks.length (nw c.Regs) ins' (LI c) ∧ RepS c.Blocks.length (nw c.Regs) outs' (LO c) := by
 have hb1 := h.h.b1
 intro B
 induction B with
 | zero =>
  intro ins outs I O hB hi hI hO
  have hw : w64 ((c.Blocks.length : Int) - 1) = (c.Blocks.length : Int) - 1 := w64_id (by omega) (by omega)
  obtain ⟨m', ins', outs', I', O', e, hp, hm, r1, r2⟩ := analyze_l3 h (I0 := I) c.Blocks.length false ins outs I O (Nat.le_refl _) ⟨hi, Nat.le_refl _, fun _ => ⟨fun _ _ => rfl, fun k h1 h2 => by omega⟩⟩ (fun h => by cases h) hI hO
  cases hmm : m' with
  | true => have := hm hmm; have := tot_bound h hp.inv; omega
  | false =>
   subst hmm
   obtain ⟨d1, d2⟩ := hp.done h
   refine ⟨ins', outs', Ev.step (fun K k => rfl) (Ev.t rfl ?_), ⟨r1.l, fun k hk => by rw [← d1 k hk]; exact r1.r k hk⟩, ⟨r2.l, fun k hk => by rw [← d2 k hk]; exact r2.r k hk⟩⟩
   simp only [hw]
   exact Ev.bind (Ev.loop e) (Ev.step (fun K k => rfl) (Ev.f rfl (Ev.some _)))
 | succ B ih =>
  intro ins outs I O hB hi hI hO
  have hw : w64 ((c.Blocks.length : Int) - 1) = (c.Blocks.length : Int) - 1 := w64_id (by omega) (by omega)
  obtain ⟨m', ins', outs', I', O', e, hp, hm, r1, r2⟩ := analyze_l3 h (I0 := I) c.Blocks.length false ins outs I O (Nat.le_refl _) ⟨hi, Nat.le_refl _, fun _ => ⟨fun _ _ => rfl, fun k h1 h2 => by omega⟩⟩ (fun h => by cases h) hI hO
  cases hmm : m' with
  | true =>
   obtain ⟨i2, o2, e2, h2⟩ := ih ins' outs' I' O' (by have := hm hmm; omega) hp.inv r1 r2
   subst hmm
   refine ⟨i2, o2, Ev.step (fun K k => rfl) (Ev.t rfl ?_), h2⟩
   simp only [hw]
   exact Ev.bind (Ev.loop e) e2
  | false =>
   subst hmm
   obtain ⟨d1, d2⟩ := hp.done h
   refine ⟨ins', outs', Ev.step (fun K k => rfl) (Ev.t rfl ?_), ⟨r1.l, fun k hk => by rw [← d1 k hk]; exact r1.r k hk⟩, ⟨r2.l, fun k hk => by rw [← d2 k hk]; exact r2.r k hk⟩⟩
   simp only [hw]
   exact Ev.bind (Ev.loop e) (Ev.step (fun K k => rfl) (Ev.f rfl (Ev.some _)))
theorem analyze_l1 {c : VFunc} (h : Vd c) {l2 : List (List Int)} (hl : l2.length = c.Blocks.length) {ws : List Int} (he : liveness_empty c.Regs = some ws) : ∀ (n j : Nat) (outs ins : List (List Int)), n + j = c.Blocks.length → outs.length = c.Blocks.length → ins.length = c.Blocks.length → (∀ i, i < j → outs[i]? = some ws ∧ ins[i]? = some ws) →
  ∃ outs' ins', Ev (fun K k => liveness_analyze_l1 K c l2 k ((j : Int), outs, ins)) (outs', ins') ∧ outs'.length = c.Blocks.length ∧ ins'.length = c.Blocks.length ∧ ∀ i, i < c.Blocks.length → outs'[i]? = some ws ∧ ins'[i]? = some ws := by
 have hb1 := h.h.b1
 intro n
 induction n with
 | zero =>
  intro j outs ins hn ho hi hall
  refine ⟨outs, ins, Ev.step (fun K k => rfl) (Ev.f ?_ (Ev.some _)), ho, hi, fun i hlt => hall i (by omega)⟩
  simp [hl]; omega
 | succ n ih =>
  intro j outs ins hn ho hi hall
  have hw : w64 ((j : Int) + 1) = ((j + 1 : Nat) : Int) := by rw [w64_id (by omega) (by omega)]; simp
  obtain ⟨o2, i2, e, h2⟩ := ih (j + 1) (outs.set j ws) (ins.set j ws) (by omega) (by simpa using ho) (by simpa using hi) fun i hlt => by
   by_cases q : i = j
   ·subst q
    exact ⟨List.getElem?_set_self (by omega), List.getElem?_set_self (by omega)⟩
   ·rw [List.getElem?_set_ne (Ne.symm q), List.getElem?_set_ne (Ne.symm q)]
    exact hall i (by omega)
  refine ⟨o2, i2, Ev.step (fun K k => rfl) (Ev.t (by simp [hl]; omega) (Ev.bindO (idx_get (l := ins) (i := j) (by omega)) (Ev.bindO he (Ev.bindO he (Ev.bindO (idx_get (l := outs) (i := j) (by omega)) ?_))))), h2⟩
  show Ev (fun K k => liveness_analyze_l1 K c l2 k (w64 ((j : Int) + 1), outs.set (j : Int).toNat ws, ins.set (j : Int).toNat ws)) _
  rw [hw]; exact e
theorem ev_analyze {c : VFunc} (h : Vd c) : ∃ ins outs, Ev (fun K _ => liveness_analyze K c) (ins, outs) ∧ RepS c.Blocks.length (nw c.Regs) ins (LI c) ∧ RepS c.Blocks.length (nw c.Regs) outs (LO c) := by
 have hb1 := h.h.b1
 obtain ⟨ws, he, hr⟩ := empty_ok h.h.r0 h.h.r1
 have hl : (List.replicate c.Blocks.length ([] : List Int)).length = c.Blocks.length := by simp
 obtain ⟨o1, i1, e1, h1, h2, h3⟩ := analyze_l1 h hl he c.Blocks.length 0 _ _ (by omega) hl hl fun i hi => by omega
 obtain ⟨i2, o2, e2, r1, r2⟩ := analyze_l2 h 3000000 i1 o1 (fun _ => []) (fun _ => []) (by omega) (Inv.start c) ⟨h2, fun k hk => ⟨ws, (h3 k hk).2, hr⟩⟩ ⟨h1, fun k hk => ⟨ws, (h3 k hk).1, hr⟩⟩
 refine ⟨i2, o2, ?_, r1, r2⟩
 unfold liveness_analyze
 have hmk : mk 24 (c.Blocks.length : Int) ([] : List Int) = some (List.replicate c.Blocks.length []) := mk_eq (by omega) (by omega)
 exact Ev.bindO hmk (Ev.bindO hmk (Ev.bind (Ev.loop e1) (Ev.bind (Ev.loop e2) (Ev.some _))))
end Go.Proofs.YtocfnpnnbmicmaaDoor.Tc
end
section
set_option linter.unusedVariables false
set_option linter.unusedSimpArgs false
namespace Go.Proofs.YtocfnpnnbmicmaaDoor.Tc
open Go
structure RS (c : VFunc) (l : List Int) : Prop where
 s : Srt l
 r : ∀ x, x ∈ l → 0 ≤ x ∧ x < c.Regs
theorem RS.len {c : VFunc} (h : Vd c) {l : List Int} (hl : RS c l) : l.length ≤ 3000 := by
 have := srt_len (n := 3000) hl.s fun x hx => by have := hl.r x hx; have := h.h.r1; omega
 exact this
theorem RS.nil (c : VFunc) : RS c [] := ⟨List.Pairwise.nil, fun _ h => by simp at h⟩
theorem RS.uni {c : VFunc} {a b : List Int} (ha : RS c a) (hb : ∀ x, x ∈ b → 0 ≤ x ∧ x < c.Regs) : RS c (uni a b) := ⟨srt_uni ha.s, fun x hx => by
 rcases mem_uni.1 hx with e | e
 ·exact ha.r x e
 ·exact hb x e⟩
theorem RS.mns {c : VFunc} {a : List Int} (ha : RS c a) (b : List Int) : RS c (mns a b) := ⟨srt_mns ha.s, fun x hx => ha.r x (mem_mns.1 hx).1⟩
theorem RS.tr {c : VFunc} {v : VInstr} (hv : InsV c v) {l : List Int} (hl : RS c l) : RS c (tr v l) := (hl.mns _).uni hv.r
theorem RS.foldr {c : VFunc} {vs : List VInstr} (hv : ∀ v, v ∈ vs → InsV c v) {l : List Int} (hl : RS c l) : RS c (vs.foldr Tc.tr l) := by
 induction vs with
 | nil => exact hl
 | cons v vs ih => exact (ih fun w hw => hv w (by simp [hw])).tr (hv v (by simp))
theorem Vd.iv {c : VFunc} (h : Vd c) {k : Nat} (hk : k < c.Blocks.length) : ∀ v, v ∈ (bk c k).Instrs → InsV c v := fun v hv => h.i hk hv
theorem RS.LI {c : VFunc} (h : Vd c) (k : Nat) : RS c (LI c k) := ⟨srt_LI c k, fun x hx => ((mem_LI h).1 hx).reg h⟩
theorem RS.LO {c : VFunc} (h : Vd c) (k : Nat) : RS c (LO c k) := ⟨srt_LO c k, fun x hx => by
 obtain ⟨t, _, h2⟩ := mem_U.1 hx
 exact ((mem_LI h).1 h2).reg h⟩
def lp (b : Block) (o : List Int) (k : Nat) : List Int := (b.Instrs.drop k).foldr tr (uni o (er b))
def lps (b : Block) (o : List Int) : List (List Int) := (List.range (b.Instrs.length + 1)).map (lp b o)
theorem RS.lp {c : VFunc} {b : Block} (hv : ∀ v, v ∈ b.Instrs → InsV c v) (he : EndV c b) {o : List Int} (ho : RS c o) (k : Nat) : RS c (lp b o k) := (ho.uni he.e).foldr fun v hv2 => hv v (List.mem_of_mem_drop hv2)
theorem lp_last (b : Block) (o : List Int) : lp b o b.Instrs.length = uni o (er b) := by unfold lp; rw [List.drop_length]; rfl
theorem lp_zero (b : Block) (o : List Int) : lp b o 0 = blkIn b o := rfl
theorem lp_step {b : Block} {o : List Int} {k : Nat} {v : VInstr} (h : b.Instrs[k]? = some v) : lp b o k = tr v (lp b o (k + 1)) := by
 have hlt : k < b.Instrs.length := by
  rcases Nat.lt_or_ge k b.Instrs.length with q | q
  ·exact q
  ·rw [List.getElem?_eq_none q] at h; cases h
 have : b.Instrs.drop k = v :: b.Instrs.drop (k + 1) := by
  rw [List.drop_eq_getElem_cons hlt]; rw [List.getElem?_eq_getElem hlt] at h; rw [Option.some.inj h]
 unfold lp; rw [this]; rfl
def fillD (n : Nat) (f : Nat → List Int) (j : Nat) : List (List Int) := List.replicate j [] ++ (List.range' j (n + 1 - j)).map f
theorem fillD_len {n j : Nat} (f : Nat → List Int) (h : j ≤ n + 1) : (fillD n f j).length = n + 1 := by unfold fillD; simp; omega
theorem fillD_get {n j i : Nat} (f : Nat → List Int) (h : j ≤ i) (h2 : i ≤ n) : (fillD n f j)[i]? = some (f i) := by
 unfold fillD
 rw [List.getElem?_append_right (by simpa using h)]
 simp only [List.length_replicate, List.getElem?_map]
 rw [List.getElem?_range' (by omega)]
 simp; congr 1; omega
theorem fillD_set {n j : Nat} (f : Nat → List Int) (h : j ≤ n) : (fillD n f (j + 1)).set j (f j) = fillD n f j := by
 refine List.ext_getElem? fun i => ?_
 rcases Nat.lt_trichotomy i j with q | q | q
 ·rw [List.getElem?_set_ne (by omega)]
  unfold fillD
  rw [List.getElem?_append_left (by simp; omega), List.getElem?_append_left (by simp; omega), List.getElem?_replicate, List.getElem?_replicate]
  rw [if_pos (by omega), if_pos q]
 ·subst q
  rw [List.getElem?_set_self (by rw [fillD_len f (by omega)]; omega), fillD_get f (Nat.le_refl _) h]
 ·rw [List.getElem?_set_ne (by omega)]
  rcases Nat.lt_or_ge n i with q2 | q2
  ·rw [List.getElem?_eq_none (by rw [fillD_len f (by omega)]; omega), List.getElem?_eq_none (by rw [fillD_len f (by omega)]; omega)]
  ·rw [fillD_get f (by omega) q2, fillD_get f (by omega) q2]
theorem fillD_zero (n : Nat) (f : Nat → List Int) : fillD n f 0 = (List.range (n + 1)).map f := by
 unfold fillD; simp [List.range_eq_range']
theorem fillD_top (n : Nat) (f : Nat → List Int) : (List.replicate (n + 1) ([] : List Int)).set n (f n) = fillD n f n := by
 rw [← fillD_set f (Nat.le_refl n)]
 unfold fillD; simp
structure RepL (n : Nat) (rows : List (List Int)) (I : Nat → List Int) : Prop where
 l : rows.length = n
 r : ∀ k, k < n → rows[k]? = some (I k)
theorem RepL.set {n : Nat} {rows : List (List Int)} {I : Nat → List Int} (h : RepL n rows I) {k : Nat} (hk : k < n) (l : List Int) : RepL n (rows.set k l) (fup I k l) := ⟨by rw [List.length_set]; exact h.l, fun j hj => by
 by_cases e : j = k
 ·subst e; rw [fup_self]; exact List.getElem?_set_self (by rw [h.l]; exact hk)
 ·rw [fup_ne _ _ e, List.getElem?_set_ne (Ne.symm e)]; exact h.r j hj⟩
theorem RepL.eq {n : Nat} {rows : List (List Int)} {I : Nat → List Int} (h : RepL n rows I) : rows = (List.range n).map I := by
 refine List.ext_getElem? fun j => ?_
 rcases Nat.lt_or_ge j n with q | q
 ·rw [h.r j q, List.getElem?_map, List.getElem?_range q]; rfl
 ·rw [List.getElem?_eq_none (by rw [h.l]; exact q), List.getElem?_eq_none (by simpa using q)]
noncomputable def LPs (c : VFunc) (k : Nat) : List (List Int) := lps (bk c k) (LO c k)
theorem ev_ppoints {c : VFunc} (h : Vd c) {k : Nat} (hk : k < c.Blocks.length) : Ev (fun K _ => liveness_Points K c (k : Int)) (LPs c k) := by
 have hb1 := h.h.b1
 have hnw := nw_le h.h.r1
 have hlen := h.len hk
 obtain ⟨ins, outs, e, r1, r2⟩ := ev_analyze h
 obtain ⟨wo, ho1, ho2⟩ := r2.r k hk
 obtain ⟨w1, e1, q1⟩ := addTerm_ok h (h.e hk) ho2
 have loop : ∀ (j : Nat) (ws : List Int), j ≤ (bk c k).Instrs.length → Rep (nw c.Regs) ws (lp (bk c k) (LO c k) j) → ∃ ws', Ev (fun K n => liveness_Points_l1 K (bk c k) n ((j : Int) - 1, fillD (bk c k).Instrs.length (lp (bk c k) (LO c k)) j, ws)) (LPs c k, ws') := by
  intro j
  induction j with
  | zero =>
   intro ws _ _
   refine ⟨ws, Ev.step (fun K k => rfl) (Ev.f (by simp) ((Ev.some _).cast ?_))⟩
   rw [fillD_zero]; rfl
  | succ j ih =>
   intro ws hj hr
   have hlt : j < (bk c k).Instrs.length := hj
   have hidx : ((j + 1 : Nat) : Int) - 1 = (j : Int) := by omega
   have hw2 : w64 ((j : Int) - 1) = (j : Int) - 1 := w64_id (by omega) (by omega)
   have hgv : (bk c k).Instrs[j]? = some (bk c k).Instrs[j] := List.getElem?_eq_getElem hlt
   obtain ⟨w2, e2, q2⟩ := transfer_ok h (h.i hk (List.mem_of_getElem? hgv)) hr
   rw [← lp_step hgv] at q2
   obtain ⟨w3, e3⟩ := ih w2 (by omega) q2
   refine ⟨w3, Ev.step (fun K k => rfl) (Ev.t (by simp) ?_)⟩
   simp only [hidx, hw2]
   refine Ev.bindO (idx_eq hgv) (Ev.bind e2 (Ev.bind (ev_list hnw q2) (Ev.bindO (idx_get (i := j) (by rw [fillD_len _ (by omega)]; omega)) ?_)))
   simp only [Int.toNat_natCast, fillD_set _ (show j ≤ (bk c k).Instrs.length by omega)]
   exact e3
 have hw : w64 (((bk c k).Instrs.length : Int) + 1) = (((bk c k).Instrs.length + 1 : Nat) : Int) := by rw [w64_id (by omega) (by omega)]; simp
 have hw2 : w64 (((bk c k).Instrs.length : Int) - 1) = ((bk c k).Instrs.length : Int) - 1 := w64_id (by omega) (by omega)
 obtain ⟨w3, e3⟩ := loop _ w1 (Nat.le_refl _) (by rw [lp_last]; exact q1)
 unfold liveness_Points
 refine Ev.bind (ev_vvalid h.sm) (Ev.f ?_ (Ev.bind e (Ev.bindO (bk_idx hk) (Ev.bindO (idx_eq ho1) (Ev.bindO (app_nil (by rw [ho2.w.1]; omega) (by rw [ho2.w.1]; omega)) (Ev.bindO e1 ?_))))))
 ·rw [h.v]; simp; omega
 ·rw [hw, hw2]
  refine Ev.bindO (mk_eq (by omega) (by omega)) (Ev.bind (ev_list hnw q1) (Ev.bindO (idx_get (i := (bk c k).Instrs.length) (by simp)) ?_))
  rw [Int.toNat_natCast, ← lp_last, fillD_top]
  exact Ev.bind (Ev.loop e3) (Ev.some _)
end Go.Proofs.YtocfnpnnbmicmaaDoor.Tc
end
section
set_option linter.unusedVariables false
set_option linter.unusedSimpArgs false
set_option maxRecDepth 20000
namespace Go.Proofs.YtocfnpnnbmicmaaDoor.Tc
open Go
theorem pick_ok (a : Int) {m : Int} (h0 : 0 < m) (h1 : m ≤ 1000000000000) : ∃ r, keep_Pick a m = some r ∧ 0 ≤ r ∧ r < m := by
 have h2 := Int.tmod_lt_of_pos a h0
 have h3 : -m < Int.tmod a m := by
  have := Int.tmod_lt_of_pos (-a) h0
  rw [Int.neg_tmod] at this; omega
 unfold keep_Pick
 have hg : (m != 0) = true := by simp; omega
 rw [hg]
 by_cases h : Int.tmod a m < 0
 ·refine ⟨Int.tmod a m + m, ?_, by omega, by omega⟩
  simp only [guardO, cnd, h, decide_true, Option.bind_some]
  rw [w64_id (by omega) (by omega)]
 ·exact ⟨Int.tmod a m, by simp only [guardO, cnd, h, decide_false, Option.bind_some], by omega, h2⟩
theorem next_ok (d : Fullingkeep2Digits) {m : Int} (h0 : 0 < m) (h1 : m ≤ 1000000000000) : ∃ r d', keep2_Digits_Next d m = some (r, d') ∧ 0 ≤ r ∧ r < m := by
 obtain ⟨r, e, h2, h3⟩ := pick_ok d.N h0 h1
 refine ⟨r, ⟨w64 (Int.tdiv (w64 (d.N - r)) m)⟩, ?_, h2, h3⟩
 unfold keep2_Digits_Next
 have hg : (m != 0) = true := by simp; omega
 rw [e, Option.bind_some, hg]; rfl
theorem word_ok (a b : Int) : ∃ r, keep_Word a b = some r := by
 obtain ⟨r1, e1, h1, h2⟩ := pick_ok a (m := 24) (by omega) (by omega)
 unfold keep_Word
 rw [e1, Option.bind_some]
 by_cases h : r1 < 10
 ·simp only [h, decide_true, cnd]
  have : (r1.toNat) < ([0, 1, (-1), 2, (-9223372036854775808), 9223372036854775807, 4294967296, (-2147483648), 63, 64] : List Int).length := by simp; omega
  have e := idx_get this
  rw [show ((r1.toNat : Nat) : Int) = r1 by omega] at e
  rw [e]; exact ⟨_, rfl⟩
 ·simp only [h, decide_false, cnd]
  by_cases h3 : r1 < 22
  ·simp only [h3, decide_true]
   obtain ⟨r2, e2, _, _⟩ := pick_ok (w64 (Int.tdiv a 24)) (m := 17) (by omega) (by omega)
   rw [e2]; exact ⟨_, rfl⟩
  ·simp only [h3, decide_false]; exact ⟨_, rfl⟩
def opsV : List Int := [3, 6, 9, 10, 11, 12, 13, 33, 34, 35, 15, 16, 17, 18, 19, 20, 21, 22, 23, 24, 25, 26, 27, 28, 29, 30, 31, 32]
theorem inf_all : opsV.all (fun op => alw op && decide ((ref29_Info op).map (fun x => x.1.Form) = some (fm op)) && (op != 38)) = true := by kernel_rfl
theorem inf_eq {op : Int} (h : op ∈ opsV) : alw op = true ∧ (∃ x, ref29_Info op = some x ∧ x.1.Form = fm op) ∧ op ≠ 38 := by
 have := List.all_eq_true.1 inf_all op h
 simp only [Bool.and_eq_true, decide_eq_true_eq, bne_iff_ne] at this
 refine ⟨this.1.1, ?_, this.2⟩
 have h2 := this.1.2
 cases hx : ref29_Info op with
 | none => rw [hx] at h2; cases h2
 | some x => rw [hx] at h2; exact ⟨x, rfl, Option.some.inj h2⟩
theorem ev_vinstr_l1 {c : VFunc} (h0 : 0 < c.Regs) (h1 : c.Regs ≤ 3000) : ∀ (n : Nat) (d : Int) (ag : List Int), ag.length + n ≤ 2 → (∀ x, x ∈ ag → regB c x = true) →
  ∃ d' ag', Ev (fun K k => keep2_VInstr_l1 K c k ((n : Int), d, ag)) (d', ag') ∧ ag'.length ≤ 2 ∧ ∀ x, x ∈ ag' → regB c x = true := by
 intro n
 induction n with
 | zero => intro d ag h2 h3; exact ⟨d, ag, Ev.step (fun K k => rfl) (Ev.f (by simp) (Ev.some _)), by omega, h3⟩
 | succ n ih =>
  intro d ag h2 h3
  obtain ⟨r, d', e, h4, h5⟩ := next_ok ⟨d⟩ (m := c.Regs) h0 (by omega)
  obtain ⟨d2, as2, e2, h6⟩ := ih d'.N (ag ++ [r]) (by simp; omega) fun x hx => by
   rcases List.mem_append.1 hx with q | q
   ·exact h3 x q
   ·rw [List.mem_singleton.1 q]; exact regB_iff.2 ⟨h4, h5⟩
  refine ⟨d2, as2, Ev.step (fun K k => rfl) (Ev.t (by simp) (Ev.bindO e (Ev.bindO (app_eq (by simp; omega) (by simp; omega)) ?_))), h6⟩
  have hw : w64 (((n + 1 : Nat) : Int) - 1) = (n : Int) := by rw [w64_id (by omega) (by omega)]; omega
  simp only [hw]; exact e2
theorem ev_vinstr {c : VFunc} (h0 : 0 < c.Regs) (h1 : c.Regs ≤ 3000) (n : Int) : ∃ v, Ev (fun K _ => keep2_VInstr K n c) v ∧ insB c v = true := by
 unfold keep2_VInstr
 obtain ⟨r4, d4, e4, h4, h5⟩ := next_ok ⟨n⟩ (m := 18) (by omega) (by omega)
 obtain ⟨r11, d11, e11, h11, h12⟩ := next_ok d4 (m := 24) (by omega) (by omega)
 -- the operation
 have hop : ∃ op, op ∈ opsV ∧ (Option.bind (keep2_Digits_Next d4 24) (fun r11 => (cnd (decide (r11.1 < ((([3, 6, 9, 10, 11, 12, 13, 33, 34, 35, 10, 9] : List Int)).length : Int))) (Option.bind (idx ([3, 6, 9, 10, 11, 12, 13, 33, 34, 35, 10, 9] : List Int) r11.1) (fun y14 => (some (y14, r11.2.N)))) (some ((w64 (15 + r4)), r11.2.N))))) = some (op, d11.N) := by
  rw [e11, Option.bind_some]
  by_cases hr : r11 < 12
  ·have hlt : r11.toNat < ([3, 6, 9, 10, 11, 12, 13, 33, 34, 35, 10, 9] : List Int).length := by simp; omega
   have e := idx_get hlt
   rw [show ((r11.toNat : Nat) : Int) = r11 by omega] at e
   refine ⟨([3, 6, 9, 10, 11, 12, 13, 33, 34, 35, 10, 9] : List Int)[r11.toNat], ?_, ?_⟩
   ·have hm : ∀ x, x ∈ ([3, 6, 9, 10, 11, 12, 13, 33, 34, 35, 10, 9] : List Int) → x ∈ opsV := by decide
    exact hm _ (List.getElem_mem hlt)
   ·have : decide (r11 < ((([3, 6, 9, 10, 11, 12, 13, 33, 34, 35, 10, 9] : List Int)).length : Int)) = true := by simp; omega
    simp only [this, cnd, e, Option.bind_some]
  ·refine ⟨15 + r4, ?_, ?_⟩
   ·simp only [opsV, List.mem_cons, List.not_mem_nil, or_false]; omega
   ·have : decide (r11 < ((([3, 6, 9, 10, 11, 12, 13, 33, 34, 35, 10, 9] : List Int)).length : Int)) = false := by simp; omega
    simp only [this, cnd, Option.bind_some]
    rw [w64_id (by omega) (by omega)]
 obtain ⟨op, hmem, hop⟩ := hop
 obtain ⟨ha, ⟨x, ex, hx⟩, h38⟩ := inf_eq hmem
 obtain ⟨f1, f2, f3⟩ := form_eq ha
 simp only [e4, Option.bind_some, hop, ex]
 -- A, B, C
 have reg : ∀ (b : Bool) (d : Int), ∃ r d', cnd b (Option.bind (keep2_Digits_Next (⟨d⟩ : Fullingkeep2Digits) c.Regs) (fun r26 => (some (r26.1, r26.2.N)))) (some ((0 : Int), d)) = some (r, d') ∧ (if b then regB c r else r == 0) = true := by
  intro b d
  cases b with
  | false => exact ⟨0, d, rfl, rfl⟩
  | true =>
   obtain ⟨r, d', e, h4, h5⟩ := next_ok ⟨d⟩ (m := c.Regs) h0 (by omega)
   exact ⟨r, d'.N, by rw [e]; rfl, regB_iff.2 ⟨h4, h5⟩⟩
 obtain ⟨A, dA, eA, hA⟩ := reg (x.1.Form != 1) d11.N
 obtain ⟨B, dB, eB, hB⟩ := reg (((x.1.Form == 3) || (x.1.Form == 4)) || (x.1.Form == 7)) dA
 obtain ⟨C, dC, eC, hC⟩ := reg (x.1.Form == 4) dB
 simp only [eA, eB, eC, Option.bind_some]
 rw [hx, f2] at hA
 have hB : (if fBb (fm op) then regB c B else B == 0) = true := by rw [hx] at hB; exact hB
 have hC : (if fC (fm op) then regB c C else C == 0) = true := by rw [hx] at hC; exact hC
 -- the rest
 have fin : ∀ (ag : List Int) (N : Int), ag.length ≤ 2 → (∀ x, x ∈ ag → regB c x = true) → (op ≠ 6 → ag = []) → ((fN (fm op)) = false → N = 0) → numB c ⟨op, A, B, C, N⟩ = true → insB c ⟨⟨op, A, B, C, N⟩, ag⟩ = true := by
  intro ag N g1 g2 g3 g4 g5
  unfold insB
  have c1 : (((!(alw op)) || (decide ((ag.length : Int) > 6))) || ((op != 6) && (decide ((ag.length : Int) > 0)))) = false := by
   rw [ha]
   by_cases h6 : op = 6
   ·simp [h6]; omega
   ·rw [g3 h6]; simp
  have c2 : ag.all (regB c) = true := List.all_eq_true.2 g2
  have gen : ∀ a b e : Bool, (if a then b else e) = true → (a && !b) = false ∧ ((!a) && !e) = false := by decide
  have A1 := gen _ _ _ hA
  have B1 := gen _ _ _ hB
  have C1 := gen _ _ _ hC
  have N1 : ((!(fN (fm op))) && (N != 0)) = false := by
   cases hf : fN (fm op) with
   | true => rfl
   | false => rw [g4 hf]; rfl
  simp only [c1, c2, A1.1, B1.1, C1.1, N1]
  have e1 : ((!(fA (fm op))) && (A != 0)) = false := A1.2
  have e2 : ((!(fBb (fm op))) && (B != 0)) = false := B1.2
  have e3 : ((!(fC (fm op))) && (C != 0)) = false := C1.2
  simp only [e1, e2, e3]
  simpa using g5
 have nB : ∀ N, op ≠ 33 → op ≠ 6 → op ≠ 34 → op ≠ 35 → numB c ⟨op, A, B, C, N⟩ = true := fun N q1 q2 q3 q4 => by
  unfold numB
  simp [q1, q2, q3, q4, h38]
 by_cases h13 : op = 13
 ·obtain ⟨r, d, e, _, _⟩ := next_ok ⟨dC⟩ (m := 400) (by omega) (by omega)
  obtain ⟨w, ew⟩ := word_ok r n
  refine ⟨⟨⟨op, A, B, C, w⟩, []⟩, Ev.bind (x := (([] : List Int), w, d.N)) (Ev.t (by simp [h13]) (Ev.bindO e (Ev.bindO ew (Ev.some _)))) (Ev.some _), fin [] w (by simp) (by simp) (fun _ => rfl) (fun hf => ?_) (nB w (by omega) (by omega) (by omega) (by omega))⟩
  rw [f3, h13] at hf; cases hf
 by_cases h33 : op = 33
 ·obtain ⟨r, d, e, q1, q2⟩ := next_ok ⟨dC⟩ (m := 9) (by omega) (by omega)
  have hw : w64 (r - 4) = r - 4 := w64_id (by omega) (by omega)
  refine ⟨⟨⟨op, A, B, C, r - 4⟩, []⟩, Ev.bind (x := (([] : List Int), r - 4, d.N)) (Ev.f (by simp [h13]) (Ev.t (by simp [h33]) (Ev.bindO e ((Ev.some _).cast (by simp only [hw]))))) (Ev.some _), fin [] _ (by simp) (by simp) (fun _ => rfl) (fun hf => ?_) ?_⟩
  ·rw [f3, h33] at hf; cases hf
  ·subst h33; unfold numB; simp; omega
 by_cases h34 : op = 34 ∨ op = 35
 ·obtain ⟨r, d, e, q1, q2⟩ := next_ok ⟨dC⟩ (m := 2) (by omega) (by omega)
  have hb : Ev (fun K k => cnd (op == 34) (some (op == 34)) (some (op == 35))) true := by
   rcases h34 with rfl | rfl
   ·exact Ev.t rfl ((Ev.some _).cast rfl)
   ·exact Ev.f rfl ((Ev.some _).cast rfl)
  refine ⟨⟨⟨op, A, B, C, r⟩, []⟩, Ev.bind (x := (([] : List Int), r, d.N)) (Ev.f (by simp [h13]) (Ev.f (by simp [h33]) (Ev.bind hb (Ev.t rfl (Ev.bindO e (Ev.some _)))))) (Ev.some _), fin [] _ (by simp) (by simp) (fun _ => rfl) (fun hf => ?_) ?_⟩
  ·rw [f3] at hf; rcases h34 with rfl | rfl <;> cases hf
  ·rcases h34 with rfl | rfl
   ·unfold numB; simp; omega
   ·unfold numB; simp; omega
 have h34' : op ≠ 34 ∧ op ≠ 35 := ⟨fun e => h34 (.inl e), fun e => h34 (.inr e)⟩
 have hb : Ev (fun K k => cnd (op == 34) (some (op == 34)) (some (op == 35))) false := Ev.f (by simp [h34'.1]) ((Ev.some _).cast (by simp [h34'.2]))
 by_cases h6 : op = 6
 ·obtain ⟨r, d, e, q1, q2⟩ := next_ok ⟨dC⟩ (m := 2) (by omega) (by omega)
  obtain ⟨d2, ag, e2, g1, g2⟩ := ev_vinstr_l1 h0 h1 (2 - r).toNat d.N [] (by simp; omega) (by simp)
  have hw : w64 (2 - r) = ((2 - r).toNat : Int) := by rw [w64_id (by omega) (by omega)]; omega
  refine ⟨⟨⟨op, A, B, C, r⟩, ag⟩, Ev.bind (x := (ag, r, d2)) (Ev.f (by simp [h13]) (Ev.f (by simp [h33]) (Ev.bind hb (Ev.f rfl (Ev.t (by simp [h6]) (Ev.bindO e ?_)))))) (Ev.some _), fin ag r g1 g2 (fun hc => absurd h6 hc) (fun hf => ?_) ?_⟩
  ·simp only [hw]
   exact Ev.bind (Ev.loop e2) (Ev.some _)
  ·rw [f3, h6] at hf; cases hf
  ·subst h6; unfold numB; simp; omega
 ·refine ⟨⟨⟨op, A, B, C, 0⟩, []⟩, Ev.bind (x := (([] : List Int), (0 : Int), dC)) (Ev.f (by simp [h13]) (Ev.f (by simp [h33]) (Ev.bind hb (Ev.f rfl (Ev.f (by simp [h6]) (Ev.some _)))))) (Ev.some _), fin [] 0 (by simp) (by simp) (fun _ => rfl) (fun _ => rfl) (nB 0 h33 h6 h34'.1 h34'.2)⟩
def iv0 (p : Int) (r : Nat) : VInstr := ⟨⟨if (r : Int) < p then 38 else 13, r, 0, 0, r⟩, []⟩
def firstB (p : Int) (R : Nat) : Block := ⟨(List.range R).map (iv0 p), 1, 0, 1, 0⟩
structure BlkV (p R : Int) (M : Nat) (b : Block) : Prop where
 i : ∀ v, v ∈ b.Instrs → insB ⟨p, R, []⟩ v = true
 n : b.Instrs.length ≤ 5
 e : (b.End = 1 ∧ 1 ≤ b.Target ∧ b.Target ≤ M ∧ b.Reg = 0 ∧ b.Else = 0) ∨ (b.End = 2 ∧ 1 ≤ b.Target ∧ b.Target ≤ M ∧ 1 ≤ b.Else ∧ b.Else ≤ M ∧ 0 ≤ b.Reg ∧ b.Reg < R) ∨ (b.End = 3 ∧ 0 ≤ b.Reg ∧ b.Reg < R ∧ b.Target = 0 ∧ b.Else = 0) ∨ (b.End = 4 ∧ 1 ≤ b.Target ∧ b.Target ≤ 9 ∧ b.Reg = 0 ∧ b.Else = 0)
structure VF (p : Int) (c : VFunc) : Prop where
 p0 : 0 ≤ p
 p2 : p ≤ 2
 hp : c.Params = p
 hr : c.Regs = 9 + p
 hb : ∃ (M : Nat) (bs : List Block), c.Blocks = firstB p (9 + p.toNat) :: bs ∧ bs.length = M ∧ 1 ≤ M ∧ M ≤ 6 ∧ ∀ b, b ∈ bs → BlkV p (9 + p) M b
theorem ev_vfunc_l1 {p : Int} (h0 : 0 ≤ p) (h2 : p ≤ 2) : Ev (fun K k => keep2_VFunc_l1 K p k (0, 9)) (9 + p) := by
 have h : p = 0 ∨ p = 1 ∨ p = 2 := by omega
 rcases h with rfl | rfl | rfl
 ·exact Ev.step (fun K k => rfl) (Ev.f rfl (Ev.some _))
 ·exact Ev.step (fun K k => rfl) (Ev.t rfl (Ev.step (fun K k => rfl) (Ev.f rfl (Ev.some _))))
 ·exact Ev.step (fun K k => rfl) (Ev.t rfl (Ev.step (fun K k => rfl) (Ev.t rfl (Ev.step (fun K k => rfl) (Ev.f rfl (Ev.some _))))))
theorem ev_vfunc_l2 {p : Int} (h0 : 0 ≤ p) (h2 : p ≤ 2) : ∀ (n j : Nat), j + n = 9 + p.toNat → Ev (fun K k => keep2_VFunc_l2 K p (9 + p) k ((j : Int), (List.range j).map (iv0 p))) (firstB p (9 + p.toNat)).Instrs := by
 intro n
 induction n with
 | zero =>
  intro j hj
  refine Ev.step (fun K k => rfl) (Ev.f (by simp; omega) ((Ev.some _).cast ?_))
  rw [show 9 + p.toNat = j by omega]; rfl
 | succ n ih =>
  intro j hj
  have hw : w64 ((j : Int) + 1) = ((j + 1 : Nat) : Int) := by rw [w64_id (by omega) (by omega)]; simp
  refine Ev.step (fun K k => rfl) (Ev.t (by simp; omega) (Ev.bind (x := if (j : Int) < p then 38 else 13) ?_ (Ev.bindO (app_eq (by simp; omega) (by simp; omega)) ?_)))
  ·by_cases h : (j : Int) < p
   ·rw [if_pos h]; exact Ev.t (by simpa using h) (Ev.some _)
   ·rw [if_neg h]; exact Ev.f (by simpa using h) (Ev.some _)
  ·simp only [hw]
   have := ih (j + 1) (by omega)
   rw [List.range_succ, List.map_append] at this
   exact this
theorem ev_vfunc_l4 {l : List Int} (hl : l.length ≤ 36) {p : Int} (h0 : 0 ≤ p) (h2 : p ≤ 2) {s : Int × List Block} {b : Nat} (hs : s.1 = (b : Int)) (hb : b ≤ 6) : ∀ (n j : Nat) (is : List VInstr), j + n = 5 → is.length = j → (∀ v, v ∈ is → insB ⟨p, 9 + p, []⟩ v = true) →
  ∃ is', Ev (fun K k => keep2_VFunc_l4 K l p (9 + p) s k ((j : Int), is)) is' ∧ is'.length ≤ 5 ∧ ∀ v, v ∈ is' → insB ⟨p, 9 + p, []⟩ v = true := by
 intro n
 induction n with
 | zero =>
  intro j is hj hi hv
  refine ⟨is, Ev.step (fun K k => rfl) (Ev.f ?_ (Ev.some _)), by omega, hv⟩
  have : decide ((j : Int) < 5) = false := by simp; omega
  simp only [this, Bool.false_and]
 | succ n ih =>
  intro j is hj hi hv
  have hw : w64 ((j : Int) + 1) = ((j + 1 : Nat) : Int) := by rw [w64_id (by omega) (by omega)]; simp
  have hw2 : w64 (w64 (6 * s.1) + (j : Int)) = ((6 * b + j : Nat) : Int) := by
   rw [hs, w64_id (n := 6 * (b : Int)) (by omega) (by omega), w64_id (by omega) (by omega)]; simp
  have h5 : decide ((j : Int) < 5) = true := by simp; omega
  rcases Nat.lt_or_ge (6 * b + j) l.length with q | q
  ·obtain ⟨v, ev, hvv⟩ := ev_vinstr (c := ⟨p, 9 + p, []⟩) (by show 0 < 9 + p; omega) (by show 9 + p ≤ 3000; omega) l[6 * b + j]
   obtain ⟨is', e, h6⟩ := ih (j + 1) (is ++ [v]) (by omega) (by simp [hi]) fun w hw => by
    rcases List.mem_append.1 hw with q | q
    ·exact hv w q
    ·rw [List.mem_singleton.1 q]; exact hvv
   refine ⟨is', Ev.step (fun K k => rfl) (Ev.t ?_ ?_), h6⟩
   ·simp only [h5, hw2, Bool.true_and, decide_eq_true_eq]; omega
   ·simp only [hw2, hw]
    exact Ev.bindO (idx_get q) (Ev.bind ev (Ev.bindO (app_eq (by simp; omega) (by simp; omega)) e))
  ·refine ⟨is, Ev.step (fun K k => rfl) (Ev.f ?_ (Ev.some _)), by omega, hv⟩
   simp only [h5, hw2, Bool.true_and, decide_eq_false_iff_not]; omega
theorem ev_vfunc_l3 {l : List Int} (hl : l.length ≤ 36) {p : Int} (h0 : 0 ≤ p) (h2 : p ≤ 2) {M : Nat} (hM : M ≤ 6) (hm : (w64 (1 + (if 5 < (w64 (Int.tdiv (l.length : Int) 6)) then 5 else (w64 (Int.tdiv (l.length : Int) 6))))) = (M : Int)) : ∀ (n j : Nat) (f : Block) (bs : List Block), j + n = M → bs.length = j → (∀ b, b ∈ bs → BlkV p (9 + p) M b) →
  ∃ bs', Ev (fun K k => keep2_VFunc_l3 K l p (9 + p) k ((j : Int), f :: bs)) (f :: bs') ∧ bs'.length = M ∧ ∀ b, b ∈ bs' → BlkV p (9 + p) M b := by
 intro n
 induction n with
 | zero =>
  intro j f bs hj hi hv
  refine ⟨bs, Ev.step (fun K k => rfl) (Ev.f ?_ (Ev.some _)), by omega, hv⟩
  rw [hm]; simp; omega
 | succ n ih =>
  intro j f bs hj hi hv
  have hw : w64 ((j : Int) + 1) = ((j + 1 : Nat) : Int) := by rw [w64_id (by omega) (by omega)]; simp
  obtain ⟨is, e1, g1, g2⟩ := ev_vfunc_l4 hl h0 h2 (s := ((j : Int), f :: bs)) (b := j) rfl (by omega) 5 0 [] (by omega) rfl (by simp)
  have hnum : ∃ d, Ev (fun (K k : Nat) => (cnd (decide ((w64 ((w64 (6 * (j : Int))) + 5)) < (l.length : Int))) (Option.bind (idx l (w64 ((w64 (6 * (j : Int))) + 5))) (fun y65 => (some y65))) (some 0))) d := by
   have hw2 : w64 (w64 (6 * (j : Int)) + 5) = ((6 * j + 5 : Nat) : Int) := by
    rw [w64_id (n := 6 * (j : Int)) (by omega) (by omega), w64_id (by omega) (by omega)]; simp
   simp only [hw2]
   rcases Nat.lt_or_ge (6 * j + 5) l.length with q | q
   ·exact ⟨_, Ev.t (by simp; omega) (Ev.bindO (idx_get q) (Ev.some _))⟩
   ·exact ⟨0, Ev.f (by simp; omega) (Ev.some _)⟩
  obtain ⟨d, e2⟩ := hnum
  obtain ⟨r73, d73, e73, q1, q2⟩ := next_ok ⟨d⟩ (m := 6) (by omega) (by omega)
  -- how the block ends
  have hend : ∃ (dn E R T L : Int), Ev (fun (K k : Nat) => Option.bind (keep2_Digits_Next (⟨d⟩ : Fullingkeep2Digits) 6) (fun r73 => (cnd (r73.1 == 0) (Option.bind (keep2_Digits_Next r73.2 (w64 (1 + (if 5 < (w64 (Int.tdiv (l.length : Int) 6)) then 5 else (w64 (Int.tdiv (l.length : Int) 6)))))) (fun r76 => (some (r76.2.N, 1, 0, (w64 (1 + r76.1)), 0)))) (cnd (r73.1 == 1) (Option.bind (keep2_Digits_Next r73.2 9) (fun r79 => (some (r79.2.N, 4, 0, (w64 (1 + r79.1)), 0)))) (cnd (r73.1 == 2) (Option.bind (keep2_Digits_Next r73.2 (9 + p)) (fun r82 => (some (r82.2.N, 3, r82.1, 0, 0)))) (Option.bind (keep2_Digits_Next r73.2 (9 + p)) (fun r84 => (Option.bind (keep2_Digits_Next r84.2 (w64 (1 + (if 5 < (w64 (Int.tdiv (l.length : Int) 6)) then 5 else (w64 (Int.tdiv (l.length : Int) 6)))))) (fun r86 => (Option.bind (keep2_Digits_Next r86.2 (w64 (1 + (if 5 < (w64 (Int.tdiv (l.length : Int) 6)) then 5 else (w64 (Int.tdiv (l.length : Int) 6)))))) (fun r88 => (some (r88.2.N, 2, r84.1, (w64 (1 + r86.1)), (w64 (1 + r88.1)))))))))))))))
    (dn, E, R, T, L) ∧ ((E = 1 ∧ 1 ≤ T ∧ T ≤ M ∧ R = 0 ∧ L = 0) ∨ (E = 2 ∧ 1 ≤ T ∧ T ≤ M ∧ 1 ≤ L ∧ L ≤ M ∧ 0 ≤ R ∧ R < 9 + p) ∨ (E = 3 ∧ 0 ≤ R ∧ R < 9 + p ∧ T = 0 ∧ L = 0) ∨ (E = 4 ∧ 1 ≤ T ∧ T ≤ 9 ∧ R = 0 ∧ L = 0)) := by
   simp only [hm]
   have hM0 : 0 < (M : Int) := by omega
   by_cases z0 : r73 = 0
   ·obtain ⟨r, d', e, a1, a2⟩ := next_ok d73 (m := (M : Int)) hM0 (by omega)
    have hw3 : w64 (1 + r) = 1 + r := w64_id (by omega) (by omega)
    exact ⟨_, _, _, _, _, Ev.bindO e73 (Ev.t (by simp [z0]) (Ev.bindO e (Ev.some _))), .inl ⟨rfl, by rw [hw3]; omega, by rw [hw3]; omega, rfl, rfl⟩⟩
   by_cases z1 : r73 = 1
   ·obtain ⟨r, d', e, a1, a2⟩ := next_ok d73 (m := 9) (by omega) (by omega)
    have hw3 : w64 (1 + r) = 1 + r := w64_id (by omega) (by omega)
    exact ⟨_, _, _, _, _, Ev.bindO e73 (Ev.f (by simp [z0]) (Ev.t (by simp [z1]) (Ev.bindO e (Ev.some _)))), .inr (.inr (.inr ⟨rfl, by rw [hw3]; omega, by rw [hw3]; omega, rfl, rfl⟩))⟩
   by_cases z2 : r73 = 2
   ·obtain ⟨r, d', e, a1, a2⟩ := next_ok d73 (m := 9 + p) (by omega) (by omega)
    exact ⟨_, _, _, _, _, Ev.bindO e73 (Ev.f (by simp [z0]) (Ev.f (by simp [z1]) (Ev.t (by simp [z2]) (Ev.bindO e (Ev.some _))))), .inr (.inr (.inl ⟨rfl, a1, a2, rfl, rfl⟩))⟩
   ·obtain ⟨r, d', e, a1, a2⟩ := next_ok d73 (m := 9 + p) (by omega) (by omega)
    obtain ⟨r2, d2, e2, b1, b2⟩ := next_ok d' (m := (M : Int)) hM0 (by omega)
    obtain ⟨r3, d3, e3, c1, c2⟩ := next_ok d2 (m := (M : Int)) hM0 (by omega)
    have hw3 : w64 (1 + r2) = 1 + r2 := w64_id (by omega) (by omega)
    have hw4 : w64 (1 + r3) = 1 + r3 := w64_id (by omega) (by omega)
    exact ⟨_, _, _, _, _, Ev.bindO e73 (Ev.f (by simp [z0]) (Ev.f (by simp [z1]) (Ev.f (by simp [z2]) (Ev.bindO e (Ev.bindO e2 (Ev.bindO e3 (Ev.some _))))))), .inr (.inl ⟨rfl, by rw [hw3]; omega, by rw [hw3]; omega, by rw [hw4]; omega, by rw [hw4]; omega, a1, a2⟩)⟩
  obtain ⟨dn, E, R, T, L, e3, hE⟩ := hend
  have hlast : ∃ (E' R' T' : Int), Ev (fun (K k : Nat) => (cnd (((j : Int) == (w64 ((w64 (1 + (if 5 < (w64 (Int.tdiv (l.length : Int) 6)) then 5 else (w64 (Int.tdiv (l.length : Int) 6))))) - 1))) && (E == 1)) (some ((3 : Int), (0 : Int), (0 : Int))) (some (E, R, T)))) (E', R', T') ∧ BlkV p (9 + p) M ⟨is, E', R', T', L⟩ := by
   generalize ((j : Int) == (w64 ((w64 (1 + (if 5 < (w64 (Int.tdiv (l.length : Int) 6)) then 5 else (w64 (Int.tdiv (l.length : Int) 6))))) - 1))) = bb
   cases bb with
   | false => exact ⟨E, R, T, Ev.f rfl (Ev.some _), g2, g1, hE⟩
   | true =>
    by_cases h1 : E = 1
    ·have hL : L = 0 := by
      rcases hE with h | h | h | h
      ·exact h.2.2.2.2
      ·exact absurd (h.1.symm.trans h1) (by decide)
      ·exact absurd (h.1.symm.trans h1) (by decide)
      ·exact absurd (h.1.symm.trans h1) (by decide)
     exact ⟨3, 0, 0, Ev.t (by simp [h1]) (Ev.some _), g2, g1, .inr (.inr (.inl ⟨rfl, Int.le_refl 0, by show (0 : Int) < 9 + p; omega, rfl, hL⟩))⟩
    ·exact ⟨E, R, T, Ev.f (by simp [h1]) (Ev.some _), g2, g1, hE⟩
  obtain ⟨E', R', T', e4, hB⟩ := hlast
  obtain ⟨bs', e5, h5⟩ := ih (j + 1) f (bs ++ [⟨is, E', R', T', L⟩]) (by omega) (by simp [hi]) fun b hb => by
   rcases List.mem_append.1 hb with q | q
   ·exact hv b q
   ·rw [List.mem_singleton.1 q]; exact hB
  refine ⟨bs', Ev.step (fun K k => rfl) (Ev.t ?_ ?_), h5⟩
  ·rw [hm]; simp; omega
  ·refine Ev.bind (Ev.loop e1) (Ev.bind e2 (Ev.bind e3 (Ev.bind e4 (Ev.bindO (app_eq (by simp; omega) (by simp; omega)) ?_))))
   simp only [hw]; exact e5
theorem ev_vfunc {l : List Int} (hl : l.length ≤ 36) {p : Int} (h0 : 0 ≤ p) (h2 : p ≤ 2) : ∃ c, Ev (fun K _ => keep2_VFunc K l p) c ∧ VF p c := by
 have hm : (w64 (1 + (if 5 < (w64 (Int.tdiv (l.length : Int) 6)) then 5 else (w64 (Int.tdiv (l.length : Int) 6))))) = ((1 + min (l.length / 6) 5 : Nat) : Int) := by
  rw [Int.tdiv_eq_ediv_of_nonneg (by omega), w64_id (n := (l.length : Int) / 6) (by omega) (by omega)]
  split
  ·rw [w64_id (by omega) (by omega)]; omega
  ·rw [w64_id (by omega) (by omega)]; omega
 obtain ⟨bs, e, h3, h4⟩ := ev_vfunc_l3 hl h0 h2 (M := 1 + min (l.length / 6) 5) (by omega) hm (1 + min (l.length / 6) 5) 0 (firstB p (9 + p.toNat)) [] (Nat.zero_add _) rfl (by simp)
 refine ⟨⟨p, 9 + p, firstB p (9 + p.toNat) :: bs⟩, ?_, ⟨h0, h2, rfl, rfl, _, bs, rfl, h3, by omega, by omega, h4⟩⟩
 unfold keep2_VFunc
 refine Ev.bind (Ev.loop (ev_vfunc_l1 h0 h2)) (Ev.bind (Ev.loop (ev_vfunc_l2 h0 h2 (9 + p.toNat) 0 (Nat.zero_add _))) (Ev.bindO (app_eq (by simp) (by simp)) (Ev.bind (Ev.loop e) (Ev.some _))))
end Go.Proofs.YtocfnpnnbmicmaaDoor.Tc
end
section
set_option linter.unusedVariables false
set_option linter.unusedSimpArgs false
set_option maxRecDepth 20000
namespace Go.Proofs.YtocfnpnnbmicmaaDoor.Tc
open Go
theorem upto {P : Nat → Prop} {n : Nat} (h0 : P n) (hs : ∀ i, i < n → P (i + 1) → P i) : P 0 := by
 have : ∀ d i, i + d = n → P i := by
  intro d
  induction d with
  | zero => intro i h; rw [show i = n by omega]; exact h0
  | succ d ih => intro i h; exact hs i (by omega) (ih (i + 1) (by omega))
 exact this n 0 (by omega)
theorem w64_succ {i : Nat} (h : i ≤ 17592186044000) : w64 ((i : Int) + 1) = ((i + 1 : Nat) : Int) := by rw [w64_id (by omega) (by omega)]; simp
theorem take36 (l : List Int) (n : Nat) : subHi l (if (n : Int) < (l.length : Int) then (n : Int) else (l.length : Int)) = some (l.take n) := by
 by_cases h : (n : Int) < (l.length : Int)
 ·rw [if_pos h]; exact subHi_eq (by omega)
 ·rw [if_neg h, subHi_eq (Nat.le_refl _), List.take_length, List.take_of_length_le (by omega)]
theorem ev_contains' {c : VFunc} (h : Vd c) {l : List Int} (hl : RS c l) {x : Int} : Ev (fun K _ => ref32_Contains K l x) (l.contains x) := ev_contains (by have := hl.len h; unfold Sm; omega)
theorem VF.len {p : Int} {c : VFunc} (h : VF p c) : 2 ≤ c.Blocks.length ∧ c.Blocks.length ≤ 7 := by
 obtain ⟨M, bs, e, h1, h2, h3, _⟩ := h.hb
 rw [e, List.length_cons]; omega
theorem VF.b0 {p : Int} {c : VFunc} (h : VF p c) : bk c 0 = firstB p (9 + p.toNat) := by
 obtain ⟨M, bs, e, _⟩ := h.hb
 unfold bk; rw [e]; rfl
theorem VF.bn {p : Int} {c : VFunc} (h : VF p c) {k : Nat} (h0 : 0 < k) (hk : k < c.Blocks.length) : BlkV p (9 + p) (c.Blocks.length - 1) (bk c k) := by
 obtain ⟨M, bs, e, h1, h2, h3, h4⟩ := h.hb
 obtain ⟨j, rfl⟩ : ∃ j, k = j + 1 := ⟨k - 1, by omega⟩
 have hl : c.Blocks.length - 1 = M := by rw [e, List.length_cons, h1]; omega
 have hj : j < bs.length := by rw [e, List.length_cons] at hk; omega
 have hb : bk c (j + 1) = bs[j] := by
  unfold bk; rw [e, List.getD_eq_getElem?_getD, List.getElem?_cons_succ, List.getElem?_eq_getElem hj]; rfl
 rw [hl, hb]; exact h4 _ (List.getElem_mem hj)
theorem mem_bk {c : VFunc} {b : Block} (h : b ∈ c.Blocks) : ∃ k, k < c.Blocks.length ∧ b = bk c k := by
 obtain ⟨k, hk, e⟩ := List.mem_iff_getElem.1 h
 refine ⟨k, hk, ?_⟩
 unfold bk; rw [List.getD_eq_getElem?_getD, List.getElem?_eq_getElem hk]; exact e.symm
theorem firstB_ins {p : Int} (h0 : 0 ≤ p) (h2 : p ≤ 2) : ∀ v, v ∈ (firstB p (9 + p.toNat)).Instrs → insB ⟨p, 9 + p, []⟩ v = true := by
 have h : p = 0 ∨ p = 1 ∨ p = 2 := by omega
 rcases h with rfl | rfl | rfl
 ·exact List.all_eq_true.1 (by kernel_rfl)
 ·exact List.all_eq_true.1 (by kernel_rfl)
 ·exact List.all_eq_true.1 (by kernel_rfl)
theorem insB_blocks (p R : Int) (bs : List Block) (v : VInstr) : insB ⟨p, R, bs⟩ v = insB ⟨p, R, []⟩ v := rfl
theorem VF.vd {p : Int} {c : VFunc} (h : VF p c) : Vd c := by
 have hl := h.len
 have h0 := h.p0
 have h2 := h.p2
 have hc : c = ⟨p, 9 + p, c.Blocks⟩ := by
  cases c with
  | mk a b bs => simp only [VFunc.mk.injEq]; exact ⟨h.hp, h.hr, trivial⟩
 have hi : ∀ v, insB c v = insB ⟨p, 9 + p, []⟩ v := fun v => by rw [hc]; exact insB_blocks _ _ _ _
 refine ⟨validB_iff.2 ⟨headV_iff.2 ⟨by rw [h.hp]; exact h0, by rw [h.hp]; omega, by rw [h.hr]; omega, by rw [h.hr]; omega, by omega, by omega⟩, fun b hb => ?_⟩, fun b hb => ?_⟩
 ·obtain ⟨k, hk, rfl⟩ := mem_bk hb
  rcases Nat.eq_zero_or_pos k with q | q
  ·subst q
   rw [h.b0]
   refine ⟨fun v hv => ?_, ?_⟩
   ·rw [hi]; exact firstB_ins h0 h2 v hv
   ·show ((blkB c 1 && ((0 : Int) == 0)) && ((0 : Int) == 0)) = true
    rw [Bool.and_eq_true, Bool.and_eq_true]
    exact ⟨⟨blkB_iff.2 ⟨by omega, by omega⟩, rfl⟩, rfl⟩
  ·have hb := h.bn q hk
   refine ⟨fun v hv => by rw [hi]; exact hb.i v hv, ?_⟩
   have hr := h.hr
   unfold endB
   rcases hb.e with e | e | e | e
   ·obtain ⟨e1, e2, e3, e4, e5⟩ := e
    rw [e1, e4, e5]
    have := blkB_iff (c := c) (n := (bk c k).Target) |>.2 ⟨by omega, by omega⟩
    rw [this]; rfl
   ·obtain ⟨e1, e2, e3, e4, e5, e6, e7⟩ := e
    rw [e1]
    have t1 := blkB_iff (c := c) (n := (bk c k).Target) |>.2 ⟨by omega, by omega⟩
    have t2 := blkB_iff (c := c) (n := (bk c k).Else) |>.2 ⟨by omega, by omega⟩
    have t3 := regB_iff (c := c) (n := (bk c k).Reg) |>.2 ⟨by omega, by omega⟩
    rw [t1, t2, t3]; rfl
   ·obtain ⟨e1, e2, e3, e4, e5⟩ := e
    have t3 := regB_iff (c := c) (n := (bk c k).Reg) |>.2 ⟨by omega, by omega⟩
    rw [e1, e4, e5, t3]; rfl
   ·obtain ⟨e1, e2, e3, e4, e5⟩ := e
    rw [e1, e4, e5]
    have a1 : decide ((bk c k).Target ≥ 1) = true := by simpa using e2
    have a2 : decide ((bk c k).Target < 33554432) = true := by simp; omega
    rw [a1, a2]; rfl
 ·obtain ⟨k, hk, rfl⟩ := mem_bk hb
  rcases Nat.eq_zero_or_pos k with q | q
  ·subst q; rw [h.b0]; simp [firstB]; omega
  ·have := (h.bn q hk).n; omega
theorem VF.ilen {p : Int} {c : VFunc} (h : VF p c) {k : Nat} (hk : k < c.Blocks.length) : (bk c k).Instrs.length ≤ 11 := by
 rcases Nat.eq_zero_or_pos k with q | q
 ·subst q; rw [h.b0]; have := h.p2; simp [firstB]; omega
 ·have := (h.bn q hk).n; omega
theorem exm3 (K : Nat) : law33_LivenessExamples (K + 100) = some true := by kernel_rfl
theorem ev_ex3 : Ev (fun K _ => law33_LivenessExamples K) true := ⟨100, fun K k hK hk => by
 obtain ⟨j, rfl⟩ : ∃ j, K = j + 100 := ⟨K - 100, by omega⟩
 exact exm3 j⟩
end Go.Proofs.YtocfnpnnbmicmaaDoor.Tc
end
section
set_option linter.unusedVariables false
set_option linter.unusedSimpArgs false
namespace Go.Proofs.YtocfnpnnbmicmaaDoor.Tc
open Go
abbrev IT := Fullingref32Interpreter
def gR (r : List Int) (n : Int) : Int := r.getD n.toNat 0
theorem idx_gR {r : List Int} {n : Int} (h0 : 0 ≤ n) (h : n.toNat < r.length) : idx r n = some (gR r n) := by
 have := idx_get h
 rw [show ((n.toNat : Nat) : Int) = n by omega] at this
 rw [this]; unfold gR; rw [List.getD_eq_getElem?_getD, List.getElem?_eq_getElem h]; rfl
def stp (x : IT) (k c : Int) : IT := ⟨x.L, x.Cells, x.Fuel, x.Most, x.Out, ⟨k, c, [], 0⟩, true, x.Long⟩
def rowX (x : IT) (n : Int) : List Int := x.Cells.getD n.toNat []
def memP (x : IT) (i : Instr) (r : List Int) : IT × List Int :=
 if gR r i.B < 0 ∨ gR r i.B ≥ ((rowX x i.N).length : Int) then (stp x 2 2, r)
 else if i.Op = 34 then (x, r.set i.A.toNat (gR (rowX x i.N) (gR r i.B)))
 else (⟨x.L, x.Cells.set i.N.toNat ((rowX x i.N).set (gR r i.B).toNat (gR r i.A)), x.Fuel, x.Most, x.Out, x.End, x.Over, x.Long⟩, r)
def unF (op a : Int) : Int := (ref29_Unary op a).getD 0
def binF (op a b : Int) : Int := (ref29_Binary op a b).getD 0
def doP (x : IT) (v : VInstr) (r a : List Int) : IT × List Int :=
 if v.Instr.Op = 3 then (if x.Fuel = 0 then stp x 3 0 else ⟨x.L, x.Cells, x.Fuel - 1, x.Most, x.Out, x.End, x.Over, x.Long⟩, r)
 else if v.Instr.Op = 9 then (⟨x.L, x.Cells, x.Fuel, x.Most, x.Out ++ [gR r v.Instr.A], x.End, x.Over, x.Long⟩, r)
 else if v.Instr.Op = 10 then (x, r.set v.Instr.A.toNat (gR r v.Instr.B))
 else if v.Instr.Op = 11 then (x, if gR r v.Instr.C = 0 then r.set v.Instr.A.toNat (gR r v.Instr.B) else r)
 else if v.Instr.Op = 12 then (x, if gR r v.Instr.C ≠ 0 then r.set v.Instr.A.toNat (gR r v.Instr.B) else r)
 else if v.Instr.Op = 13 then (x, r.set v.Instr.A.toNat v.Instr.N)
 else if v.Instr.Op = 15 ∨ v.Instr.Op = 16 then (x, r.set v.Instr.A.toNat (unF v.Instr.Op (gR r v.Instr.A)))
 else if v.Instr.Op = 33 then (x, r.set v.Instr.A.toNat (w64 (gR r v.Instr.A + v.Instr.N)))
 else if v.Instr.Op = 34 ∨ v.Instr.Op = 35 then memP x v.Instr r
 else if v.Instr.Op = 38 then (x, r.set v.Instr.A.toNat (gR a v.Instr.N))
 else if (v.Instr.Op = 20 ∨ v.Instr.Op = 21) ∧ gR r v.Instr.B = 0 then (stp x 2 1, r)
 else (x, r.set v.Instr.A.toNat (binF v.Instr.Op (gR r v.Instr.A) (gR r v.Instr.B)))
theorem un_ok (op a : Int) : ref29_Unary op a = some (unF op a) := by
 unfold unF ref29_Unary; cases (op == 15) <;> rfl
theorem one_ok (b : Bool) : ∃ r, ref29_one b = some r := by unfold ref29_one; cases b <;> exact ⟨_, rfl⟩
theorem bin_ok (op a b : Int) : ref29_Binary op a b = some (binF op a b) := by
 have : ∃ r, ref29_Binary op a b = some r := by
  unfold ref29_Binary
  have one : ∀ c : Bool, ∃ r, (Option.bind (ref29_one c) (fun r31 => (some r31)) : Option Int) = some r := fun c => by
   obtain ⟨r, e⟩ := one_ok c; exact ⟨r, by rw [e]; rfl⟩
  have cn : ∀ (c : Bool) (f g : Option Int), (∃ r, f = some r) → (∃ r, g = some r) → ∃ r, cnd c f g = some r := fun c f g h1 h2 => by cases c; exact h2; exact h1
  have gd : ∀ f : Int, (b == 0) = false → ∃ r, guardO (b != 0) (some f) = some r := fun f h => ⟨f, by
   have : (b != 0) = true := by simpa using h
   rw [this]; rfl⟩
  refine cn _ _ _ ⟨_, rfl⟩ (cn _ _ _ ⟨_, rfl⟩ (cn _ _ _ ⟨_, rfl⟩ (cn _ _ _ ?_ (cn _ _ _ ?_ (cn _ _ _ ⟨_, rfl⟩ (cn _ _ _ ⟨_, rfl⟩ (cn _ _ _ ⟨_, rfl⟩ (cn _ _ _ ⟨_, rfl⟩ (cn _ _ _ ⟨_, rfl⟩ (cn _ _ _ ⟨_, rfl⟩ (cn _ _ _ (one _) (cn _ _ _ (one _) (cn _ _ _ (one _) (cn _ _ _ (one _) (one _)))))))))))))))
  ·cases h : (b == 0) with
   | true => exact ⟨_, rfl⟩
   | false =>
    show ∃ r, cnd (b == -1) (some (w64 (0 - a))) (guardO (b != 0) (some (w64 (Int.tdiv a b)))) = some r
    exact cn _ _ _ ⟨_, rfl⟩ (gd _ h)
  ·cases h : (b == 0) with
   | true => exact ⟨_, rfl⟩
   | false =>
    cases (b == -1) with
    | true => exact ⟨_, rfl⟩
    | false => exact gd _ h
 obtain ⟨r, e⟩ := this
 unfold binF; rw [e]; rfl
theorem do_all : opsL.all (fun op => ((!((op == 9) || (op == 11) || (op == 12) || (op == 15) || (op == 16) || (op == 33) || (op == 35) || (decide (17 ≤ op) && decide (op ≤ 32)))) || (opI op).ReadsA) && ((!((op == 10) || (op == 11) || (op == 12) || (op == 34) || (op == 35) || (decide (17 ≤ op) && decide (op ≤ 32)))) || (opI op).ReadsB) && (((opI op).WritesA || (op == 6) || (op == 38)) == !((op == 3) || (op == 9) || (op == 35))) && ((op == 3) || (op == 6) || (op == 9) || (op == 10) || (op == 11) || (op == 12) || (op == 13) || (op == 15) || (op == 16) || (op == 33) || (op == 34) || (op == 35) || (op == 38) || (decide (17 ≤ op) && decide (op ≤ 32)))) = true := by kernel_rfl
structure Use (v : VInstr) : Prop where
 a : (v.Instr.Op = 9 ∨ v.Instr.Op = 11 ∨ v.Instr.Op = 12 ∨ v.Instr.Op = 15 ∨ v.Instr.Op = 16 ∨ v.Instr.Op = 33 ∨ v.Instr.Op = 35 ∨ (17 ≤ v.Instr.Op ∧ v.Instr.Op ≤ 32)) → v.Instr.A ∈ rd v
 b : (v.Instr.Op = 10 ∨ v.Instr.Op = 11 ∨ v.Instr.Op = 12 ∨ v.Instr.Op = 34 ∨ v.Instr.Op = 35 ∨ (17 ≤ v.Instr.Op ∧ v.Instr.Op ≤ 32)) → v.Instr.B ∈ rd v
 c : (v.Instr.Op = 11 ∨ v.Instr.Op = 12) → v.Instr.C ∈ rd v
 g : v.Instr.Op = 6 → ∀ x, x ∈ v.Args → x ∈ rd v
 w : v.Instr.Op ≠ 3 → v.Instr.Op ≠ 9 → v.Instr.Op ≠ 35 → wr v = [v.Instr.A]
 n : (v.Instr.Op = 3 ∨ v.Instr.Op = 9 ∨ v.Instr.Op = 35) → wr v = []
 o : v.Instr.Op = 3 ∨ v.Instr.Op = 6 ∨ v.Instr.Op = 9 ∨ v.Instr.Op = 10 ∨ v.Instr.Op = 11 ∨ v.Instr.Op = 12 ∨ v.Instr.Op = 13 ∨ v.Instr.Op = 15 ∨ v.Instr.Op = 16 ∨ v.Instr.Op = 33 ∨ v.Instr.Op = 34 ∨ v.Instr.Op = 35 ∨ v.Instr.Op = 38 ∨ (17 ≤ v.Instr.Op ∧ v.Instr.Op ≤ 32)
theorem use {v : VInstr} (h : alw v.Instr.Op = true) : Use v := by
 have h1 := List.all_eq_true.1 do_all _ (alw_mem h)
 rw [Bool.and_eq_true, Bool.and_eq_true, Bool.and_eq_true] at h1
 obtain ⟨⟨⟨hA, hB⟩, hW⟩, hO⟩ := h1
 have hrd : rd v = uni [] (rdRaw v) := by unfold rd; rw [h]; rfl
 have hwr : wr v = if ((opI v.Instr.Op).WritesA || (v.Instr.Op == 6) || (v.Instr.Op == 38)) then [v.Instr.A] else [] := by unfold wr; rw [h, Bool.true_and]
 have hW := beq_iff_eq.1 hW
 rw [hW] at hwr
 refine ⟨fun q => ?_, fun q => ?_, fun q => ?_, fun q x hx => ?_, fun a b c => ?_, fun q => ?_, ?_⟩
 ·have : (opI v.Instr.Op).ReadsA = true := by
   rcases q with q | q | q | q | q | q | q | q
   all_goals simp [q] at hA ⊢
   all_goals first | exact hA | (rcases hA with z | z; omega; exact z)
  rw [hrd, mem_uni]; right; unfold rdRaw; simp [this]
 ·have : (opI v.Instr.Op).ReadsB = true := by
   rcases q with q | q | q | q | q | q
   all_goals simp [q] at hB ⊢
   all_goals first | exact hB | (rcases hB with z | z; omega; exact z)
  rw [hrd, mem_uni]; right; unfold rdRaw; simp [this]
 ·rw [hrd, mem_uni]; right; unfold rdRaw
  rcases q with q | q <;> simp [q]
 ·rw [hrd, mem_uni]; right; unfold rdRaw; simp [q, hx]
 ·rw [hwr]; simp [a, b, c]
 ·rw [hwr]; rcases q with q | q | q <;> simp [q]
 ·simpa [Bool.or_eq_true, or_assoc] using hO
end Go.Proofs.YtocfnpnnbmicmaaDoor.Tc
end
section
set_option linter.unusedVariables false
set_option linter.unusedSimpArgs false
namespace Go.Proofs.YtocfnpnnbmicmaaDoor.Tc
open Go
theorem stop_eq (x : IT) (k c : Int) : ref32_interpreter_stop x k c = some (stp x k c) := rfl
theorem rowX_idx {x : IT} {n : Int} (h0 : 0 ≤ n) (h : n < (x.Cells.length : Int)) : idx x.Cells n = some (rowX x n) := by
 have h' : n.toNat < x.Cells.length := by omega
 have := idx_get h'
 rw [show ((n.toNat : Nat) : Int) = n by omega] at this
 rw [this]; unfold rowX; rw [List.getD_eq_getElem?_getD, List.getElem?_eq_getElem h']; rfl
theorem rowX_set {x : IT} {n : Int} (h0 : 0 ≤ n) (h : n < (x.Cells.length : Int)) : x.Cells.set n.toNat (rowX x n) = x.Cells := by
 obtain ⟨_, _, h2⟩ := idx_some (rowX_idx h0 h)
 exact set_self h2
theorem mem_eq {x : IT} {i : Instr} {r : List Int} (h0 : 0 ≤ i.N) (h : i.N < (x.Cells.length : Int)) (hB : idx r i.B = some (gR r i.B)) (hA : idx r i.A = some (gR r i.A)) : ref32_interpreter_memory x i r = some (memP x i r) := by
 unfold ref32_interpreter_memory memP
 rw [rowX_idx h0 h, Option.bind_some, hB, Option.bind_some, Option.bind_some]
 by_cases hn : gR r i.B < 0
 ·rw [if_pos (.inl hn), decide_eq_true hn]
  simp [cnd, stop_eq, rowX_set h0 h, stp]
 ·by_cases hg : gR r i.B ≥ ((rowX x i.N).length : Int)
  ·rw [if_pos (.inr hg), decide_eq_false hn, decide_eq_true hg]
   simp [cnd, stop_eq, rowX_set h0 h, stp]
  ·rw [if_neg (by rintro (q | q); exact hn q; exact hg q), decide_eq_false hn, decide_eq_false hg]
   have hi : idx (rowX x i.N) (gR r i.B) = some (gR (rowX x i.N) (gR r i.B)) := idx_gR (by omega) (by omega)
   show (cnd (i.Op == 34) (Option.bind (some (gR r i.B)) _) (Option.bind (some (gR r i.B)) _)) = _
   rw [Option.bind_some, Option.bind_some, hi, hA]
   by_cases h34 : i.Op = 34
   ·rw [if_pos h34, h34, rowX_set h0 h]; rfl
   ·rw [if_neg h34, beq_eq_false_iff_ne.2 h34]; rfl
theorem do_eq {cl : Cl} {K : Nat} {c : VFunc} {x : IT} {v : VInstr} {r a : List Int} (hv : InsV c v) (h6 : v.Instr.Op ≠ 6) (hr : r.length = c.Regs.toNat) (hf : 0 ≤ x.Fuel ∧ x.Fuel ≤ 1000) (hO : x.Out.length ≤ 1000)
  (hm : v.Instr.Op = 34 ∨ v.Instr.Op = 35 → 0 ≤ v.Instr.N ∧ v.Instr.N < (x.Cells.length : Int)) (hp : v.Instr.Op = 38 → 0 ≤ v.Instr.N ∧ v.Instr.N < (a.length : Int)) : ref32_interpreter_do cl K x v r a = some (doP x v r a) := by
 have u := use hv.a
 have rg : ∀ n, n ∈ rd v ∨ n ∈ wr v → idx r n = some (gR r n) := fun n hn => by
  have : 0 ≤ n ∧ n < c.Regs := by
   rcases hn with q | q
   ·exact hv.r n q
   ·exact hv.w n q
  exact idx_gR this.1 (by omega)
 have gA : v.Instr.Op ≠ 3 → idx r v.Instr.A = some (gR r v.Instr.A) := fun h3 => by
  by_cases h9 : v.Instr.Op = 9
  ·exact rg _ (.inl (u.a (by simp [h9])))
  ·by_cases h35 : v.Instr.Op = 35
   ·exact rg _ (.inl (u.a (by simp [h35])))
   ·exact rg _ (.inr (by rw [u.w h3 h9 h35]; simp))
 have gB := fun h => rg _ (.inl (u.b h))
 have gC := fun h => rg _ (.inl (u.c h))
 unfold ref32_interpreter_do
 rcases u.o with h | h | h | h | h | h | h | h | h | h | h | h | h | ⟨h1, h2⟩
 ·by_cases hz : x.Fuel = 0
  ·simp [doP, h, hz, cnd, stop_eq]
  ·have hb : (x.Fuel == 0) = false := beq_eq_false_iff_ne.2 hz
   simp [doP, h, hz, hb, cnd, w64_id (n := x.Fuel - 1) (by omega) (by omega)]
 ·exact absurd h h6
 ·have e1 := gA (by omega)
  have e2 : app 8 x.Out ([gR r v.Instr.A] : List Int) = some (x.Out ++ [gR r v.Instr.A]) := app_eq (by simp; omega) (by simp; omega)
  simp [doP, h, cnd, e1, e2]
 ·simp [doP, h, cnd, gA (by omega), gB (by simp [h])]
 ·by_cases hz : gR r v.Instr.C = 0
  ·simp [doP, h, cnd, gA (by omega), gB (by simp [h]), gC (by simp [h]), hz]
  ·have hb : (gR r v.Instr.C == 0) = false := beq_eq_false_iff_ne.2 hz
   simp [doP, h, cnd, gA (by omega), gB (by simp [h]), gC (by simp [h]), hz, hb, bne]
 ·by_cases hz : gR r v.Instr.C = 0
  ·simp [doP, h, cnd, gA (by omega), gB (by simp [h]), gC (by simp [h]), hz]
  ·have hb : (gR r v.Instr.C == 0) = false := beq_eq_false_iff_ne.2 hz
   simp [doP, h, cnd, gA (by omega), gB (by simp [h]), gC (by simp [h]), hz, hb, bne]
 ·simp [doP, h, cnd, gA (by omega)]
 ·simp [doP, h, cnd, gA (by omega), un_ok]
 ·simp [doP, h, cnd, gA (by omega), un_ok]
 ·simp [doP, h, cnd, gA (by omega)]
 ·have e := mem_eq (x := x) (hm (.inl h)).1 (hm (.inl h)).2 (gB (by simp [h])) (gA (by omega))
  simp [doP, h, cnd, e]
 ·have e := mem_eq (x := x) (hm (.inr h)).1 (hm (.inr h)).2 (gB (by simp [h])) (gA (by omega))
  simp [doP, h, cnd, e]
 ·have e : idx a v.Instr.N = some (gR a v.Instr.N) := idx_gR (hp h).1 (by have := hp h; omega)
  simp [doP, h, cnd, gA (by omega), e]
 ·have n : ∀ k : Int, k < 17 ∨ 32 < k → (v.Instr.Op == k) = false ∧ v.Instr.Op ≠ k := fun k hk => ⟨beq_eq_false_iff_ne.2 (by omega), by omega⟩
  have e1 := gA (by omega)
  have e2 := gB (.inr (.inr (.inr (.inr (.inr ⟨h1, h2⟩)))))
  have hd : doP x v r a = if (v.Instr.Op = 20 ∨ v.Instr.Op = 21) ∧ gR r v.Instr.B = 0 then (stp x 2 1, r) else (x, r.set v.Instr.A.toNat (binF v.Instr.Op (gR r v.Instr.A) (gR r v.Instr.B))) := by
   unfold doP
   rw [if_neg (n 3 (by omega)).2, if_neg (n 9 (by omega)).2, if_neg (n 10 (by omega)).2, if_neg (n 11 (by omega)).2, if_neg (n 12 (by omega)).2, if_neg (n 13 (by omega)).2, if_neg (by rintro (q | q); exact (n 15 (by omega)).2 q; exact (n 16 (by omega)).2 q), if_neg (n 33 (by omega)).2, if_neg (by rintro (q | q); exact (n 34 (by omega)).2 q; exact (n 35 (by omega)).2 q), if_neg (n 38 (by omega)).2]
  rw [hd, (n 3 (by omega)).1, (n 6 (by omega)).1, (n 9 (by omega)).1, (n 10 (by omega)).1, (n 11 (by omega)).1, (n 12 (by omega)).1, (n 13 (by omega)).1, (n 15 (by omega)).1, (n 16 (by omega)).1, (n 33 (by omega)).1, (n 34 (by omega)).1, (n 35 (by omega)).1, (n 38 (by omega)).1]
  simp only [cnd, Option.bind_some, e1, e2, bin_ok]
  by_cases hd : v.Instr.Op = 20 ∨ v.Instr.Op = 21
  ·have hb : ((v.Instr.Op == 20) || (v.Instr.Op == 21)) = true := by rcases hd with q | q <;> simp [q]
   rw [hb]
   by_cases hz : gR r v.Instr.B = 0
   ·simp [hz, hd, stop_eq]
   ·have hb : (gR r v.Instr.B == 0) = false := beq_eq_false_iff_ne.2 hz
    simp [hz, hd, hb]
  ·have hb : ((v.Instr.Op == 20) || (v.Instr.Op == 21)) = false := by
    rw [Bool.or_eq_false_iff]; exact ⟨beq_eq_false_iff_ne.2 fun q => hd (.inl q), beq_eq_false_iff_ne.2 fun q => hd (.inr q)⟩
   rw [hb]; simp [hd]
def Ag (S : List Int) (r s : List Int) : Prop := r.length = s.length ∧ ∀ n, n ∈ S → r[n.toNat]? = s[n.toNat]?
theorem Ag.get {S r s : List Int} (h : Ag S r s) {n : Int} (hn : n ∈ S) : gR s n = gR r n := by
 unfold gR; rw [List.getD_eq_getElem?_getD, List.getD_eq_getElem?_getD, h.2 n hn]
theorem Ag.sub {S T r s : List Int} (h : Ag S r s) (k : ∀ n, n ∈ T → n ∈ S) : Ag T r s := ⟨h.1, fun n hn => h.2 n (k n hn)⟩
theorem Ag.set {S r s : List Int} {v : VInstr} {A : Int} (h : Ag (tr v S) r s) (hw : wr v = [A]) (y : Int) : Ag S (r.set A.toNat y) (s.set A.toNat y) := by
 refine ⟨by simp [h.1], fun n hn => ?_⟩
 by_cases he : A.toNat = n.toNat
 ·rw [he, List.getElem?_set, List.getElem?_set, if_pos rfl, if_pos rfl, h.1]
 ·rw [List.getElem?_set_ne he, List.getElem?_set_ne he]
  refine h.2 n (mem_tr.2 (.inl ⟨hn, ?_⟩))
  rw [hw]; intro q; rw [List.mem_singleton.1 q] at he; exact he rfl
theorem Ag.keep {S r s : List Int} {v : VInstr} (h : Ag (tr v S) r s) (hw : ∀ n, n ∈ wr v → n ∈ rd v) : Ag S r s := h.sub fun n hn => by
 by_cases q : n ∈ wr v
 ·exact mem_tr.2 (.inr (hw n q))
 ·exact mem_tr.2 (.inl ⟨hn, q⟩)
theorem Ag.dead {S r s : List Int} {A : Int} (h : Ag S r s) (hA : A ∉ S) (h0 : 0 ≤ A) (hS : ∀ n, n ∈ S → 0 ≤ n) (y : Int) : Ag S r (s.set A.toNat y) := ⟨by simp [h.1], fun n hn => by
 rw [List.getElem?_set_ne (fun q => hA (by have := hS n hn; rw [show A = n by omega]; exact hn))]
 exact h.2 n hn⟩
def twn (q : List VFunc) (x : IT) (m : Int) : IT := ⟨q, x.Cells, x.Fuel, m, x.Out, x.End, x.Over, x.Long⟩
theorem doP_sim {q_ : List VFunc} {x : IT} {m : Int} {c : VFunc} {v : VInstr} {r s a S : List Int} (hv : InsV c v) (h6 : v.Instr.Op ≠ 6) (h : Ag (tr v S) r s) :
  (doP (twn q_ x m) v s a).1 = twn q_ (doP x v r a).1 m ∧ ((doP x v r a).1.Over = false → Ag S (doP x v r a).2 (doP (twn q_ x m) v s a).2) := by
 have u := use hv.a
 have g : ∀ n, n ∈ rd v → gR s n = gR r n := fun n hn => h.get (mem_tr.2 (.inr hn))
 have gA := fun q => g _ (u.a q)
 have gB := fun q => g _ (u.b q)
 have gC := fun q => g _ (u.c q)
 have kn : v.Instr.Op = 3 ∨ v.Instr.Op = 9 ∨ v.Instr.Op = 35 → Ag S r s := fun q => h.keep (by rw [u.n q]; simp)
 rcases u.o with q | q | q | q | q | q | q | q | q | q | q | q | q | ⟨q1, q2⟩
 ·have := kn (.inl q)
  by_cases hz : x.Fuel = 0 <;> simp [doP, q, twn, hz, stp, this]
 ·exact absurd q h6
 ·have := kn (.inr (.inl q))
  simp [doP, q, twn, gA (by simp [q]), this]
 ·have w := u.w (by omega) (by omega) (by omega)
  simp [doP, q, twn, gB (by simp [q])]; exact fun _ => h.set w _
 ·have w := u.w (by omega) (by omega) (by omega)
  have k : Ag S r s := h.keep (by rw [w]; intro n hn; rw [List.mem_singleton.1 hn]; exact u.a (by simp [q]))
  by_cases hz : gR r v.Instr.C = 0
  ·simp [doP, q, twn, gB (by simp [q]), gC (by simp [q]), hz]; exact fun _ => h.set w _
  ·simp [doP, q, twn, gB (by simp [q]), gC (by simp [q]), hz]; exact fun _ => k
 ·have w := u.w (by omega) (by omega) (by omega)
  have k : Ag S r s := h.keep (by rw [w]; intro n hn; rw [List.mem_singleton.1 hn]; exact u.a (by simp [q]))
  by_cases hz : gR r v.Instr.C = 0
  ·simp [doP, q, twn, gB (by simp [q]), gC (by simp [q]), hz]; exact fun _ => k
  ·simp [doP, q, twn, gB (by simp [q]), gC (by simp [q]), hz]; exact fun _ => h.set w _
 ·have w := u.w (by omega) (by omega) (by omega)
  simp [doP, q, twn]; exact fun _ => h.set w _
 ·have w := u.w (by omega) (by omega) (by omega)
  simp [doP, q, twn, gA (by simp [q])]; exact fun _ => h.set w _
 ·have w := u.w (by omega) (by omega) (by omega)
  simp [doP, q, twn, gA (by simp [q])]; exact fun _ => h.set w _
 ·have w := u.w (by omega) (by omega) (by omega)
  simp [doP, q, twn, gA (by simp [q])]; exact fun _ => h.set w _
 ·have w := u.w (by omega) (by omega) (by omega)
  have e1 : doP x v r a = memP x v.Instr r := by simp [doP, q]
  have e2 : doP (twn q_ x m) v s a = memP (twn q_ x m) v.Instr s := by simp [doP, q]
  rw [e1, e2]; unfold memP
  rw [gB (by simp [q])]
  have er : rowX (twn q_ x m) v.Instr.N = rowX x v.Instr.N := rfl
  rw [er]
  split
  ·exact ⟨rfl, fun z => by simp [stp] at z⟩
  ·exact ⟨rfl, fun _ => h.set w _⟩
 ·have k := kn (.inr (.inr q))
  have e1 : doP x v r a = memP x v.Instr r := by simp [doP, q]
  have e2 : doP (twn q_ x m) v s a = memP (twn q_ x m) v.Instr s := by simp [doP, q]
  rw [e1, e2]; unfold memP
  rw [gB (by simp [q]), gA (by simp [q])]
  have er : rowX (twn q_ x m) v.Instr.N = rowX x v.Instr.N := rfl
  rw [er]
  split
  ·exact ⟨rfl, fun z => by simp [stp] at z⟩
  ·rw [if_neg (by omega), if_neg (by omega)]; exact ⟨rfl, fun _ => k⟩
 ·have w := u.w (by omega) (by omega) (by omega)
  simp [doP, q, twn]; exact fun _ => h.set w _
 ·have w := u.w (by omega) (by omega) (by omega)
  have eA := gA (.inr (.inr (.inr (.inr (.inr (.inr (.inr ⟨q1, q2⟩)))))))
  have eB := gB (.inr (.inr (.inr (.inr (.inr ⟨q1, q2⟩)))))
  have hd : ∀ (x : IT) (r : List Int), doP x v r a = if (v.Instr.Op = 20 ∨ v.Instr.Op = 21) ∧ gR r v.Instr.B = 0 then (stp x 2 1, r) else (x, r.set v.Instr.A.toNat (binF v.Instr.Op (gR r v.Instr.A) (gR r v.Instr.B))) := fun x r => by
   unfold doP
   rw [if_neg (by omega), if_neg (by omega), if_neg (by omega), if_neg (by omega), if_neg (by omega), if_neg (by omega), if_neg (by omega), if_neg (by omega), if_neg (by omega), if_neg (by omega)]
  rw [hd, hd, eA, eB]
  split
  ·exact ⟨rfl, fun z => by simp [stp] at z⟩
  ·exact ⟨rfl, fun _ => h.set w _⟩
end Go.Proofs.YtocfnpnnbmicmaaDoor.Tc
end
section
set_option linter.unusedVariables false
set_option linter.unusedSimpArgs false
namespace Go.Proofs.YtocfnpnnbmicmaaDoor.Tc
open Go
structure St (L : List VFunc) (n : Nat) (x : IT) : Prop where
 l : x.L = L
 c : x.Cells.length = n
 f : 0 ≤ x.Fuel ∧ x.Fuel ≤ 1000
 m : 0 ≤ x.Most ∧ x.Most ≤ 1000
 o : (x.Out.length : Int) + x.Most ≤ 1000
def lng (x : IT) : IT := ⟨x.L, x.Cells, x.Fuel, x.Most, x.Out, x.End, x.Over, true⟩
def dcr (x : IT) : IT := ⟨x.L, x.Cells, x.Fuel, x.Most - 1, x.Out, x.End, x.Over, x.Long⟩
theorem step_0 {x : IT} (h : x.Most ≤ 0) : ref32_interpreter_step x = some (false, lng x) := by
 unfold ref32_interpreter_step; rw [decide_eq_true h]; rfl
theorem step_1 {x : IT} (h : 1 ≤ x.Most) (h2 : x.Most ≤ 1000) : ref32_interpreter_step x = some (true, dcr x) := by
 unfold ref32_interpreter_step; rw [decide_eq_false (by omega), w64_id (by omega) (by omega)]; rfl
theorem St.dcr {L : List VFunc} {n : Nat} {x : IT} (h : St L n x) (h1 : 1 ≤ x.Most) : St L n (Tc.dcr x) := ⟨h.l, h.c, h.f, ⟨by have := h.m; show 0 ≤ x.Most - 1; omega, by have := h.m; show x.Most - 1 ≤ 1000; omega⟩, by have := h.o; show (x.Out.length : Int) + (x.Most - 1) ≤ 1000; omega⟩
theorem St.lng {L : List VFunc} {n : Nat} {x : IT} (h : St L n x) : St L n (Tc.lng x) := ⟨h.l, h.c, h.f, h.m, h.o⟩
theorem ite_ind {α : Type} {P : α → Prop} {c : Prop} [Decidable c] {a b : α} (h1 : c → P a) (h2 : ¬ c → P b) : P (if c then a else b) := by
 by_cases h : c
 ·rw [if_pos h]; exact h1 h
 ·rw [if_neg h]; exact h2 h
def DF (L : List VFunc) (n : Nat) (x : IT) (r : List Int) (z : IT × List Int) : Prop := St L n z.1 ∧ z.1.Most = x.Most ∧ z.1.Long = x.Long ∧ z.2.length = r.length
theorem doP_df {L : List VFunc} {n : Nat} {x : IT} {v : VInstr} {r a : List Int} (h : St L n x) (ho : (x.Out.length : Int) + x.Most ≤ 999) : DF L n x r (doP x v r a) := by
 obtain ⟨h1, h2, h3, h4, h5⟩ := h
 have k : ∀ r' : List Int, r'.length = r.length → DF L n x r (x, r') := fun r' hr => ⟨⟨h1, h2, h3, h4, h5⟩, rfl, rfl, hr⟩
 have ks : ∀ p q : Int, DF L n x r (stp x p q, r) := fun p q => ⟨⟨h1, h2, h3, h4, h5⟩, rfl, rfl, rfl⟩
 unfold doP
 refine ite_ind (P := DF L n x r) (fun _ => ?_) (fun _ => ?_)
 ·by_cases hz : x.Fuel = 0
  ·rw [if_pos hz]; exact ks 3 0
  ·rw [if_neg hz]; exact ⟨⟨h1, h2, ⟨by show 0 ≤ x.Fuel - 1; omega, by show x.Fuel - 1 ≤ 1000; omega⟩, h4, h5⟩, rfl, rfl, rfl⟩
 refine ite_ind (P := DF L n x r) (fun _ => ?_) (fun _ => ?_)
 ·exact ⟨⟨h1, h2, h3, h4, by show ((x.Out ++ [gR r v.Instr.A]).length : Int) + x.Most ≤ 1000; simp; omega⟩, rfl, rfl, rfl⟩
 refine ite_ind (P := DF L n x r) (fun _ => k _ (by simp)) (fun _ => ?_)
 refine ite_ind (P := DF L n x r) (fun _ => k _ ?_) (fun _ => ?_)
 ·exact ite_ind (P := fun l : List Int => l.length = r.length) (fun _ => by simp) (fun _ => rfl)
 refine ite_ind (P := DF L n x r) (fun _ => k _ ?_) (fun _ => ?_)
 ·exact ite_ind (P := fun l : List Int => l.length = r.length) (fun _ => by simp) (fun _ => rfl)
 refine ite_ind (P := DF L n x r) (fun _ => k _ (by simp)) (fun _ => ?_)
 refine ite_ind (P := DF L n x r) (fun _ => k _ (by simp)) (fun _ => ?_)
 refine ite_ind (P := DF L n x r) (fun _ => k _ (by simp)) (fun _ => ?_)
 refine ite_ind (P := DF L n x r) (fun _ => ?_) (fun _ => ?_)
 ·unfold memP
  refine ite_ind (P := DF L n x r) (fun _ => ks 2 2) (fun _ => ?_)
  refine ite_ind (P := DF L n x r) (fun _ => k _ (by simp)) (fun _ => ?_)
  exact ⟨⟨h1, by show (x.Cells.set _ _).length = n; rw [List.length_set]; exact h2, h3, h4, h5⟩, rfl, rfl, rfl⟩
 refine ite_ind (P := DF L n x r) (fun _ => k _ (by simp)) (fun _ => ?_)
 exact ite_ind (P := DF L n x r) (fun _ => ks 2 1) (fun _ => k _ (by simp))
theorem doP_st {L : List VFunc} {n : Nat} {x : IT} {v : VInstr} {r a : List Int} (h : St L n x) (ho : (x.Out.length : Int) + x.Most ≤ 999) : St L n (doP x v r a).1 ∧ (doP x v r a).1.Most = x.Most ∧ (doP x v r a).1.Long = x.Long ∧ (doP x v r a).2.length = r.length := doP_df h ho
structure InsP (L : List VFunc) (n : Nat) (c : VFunc) (v : VInstr) : Prop where
 i : InsV c v
 g : v.Instr.Op = 6 → 0 ≤ v.Instr.N ∧ v.Instr.N < (L.length : Int) ∧ ∀ e, idx L v.Instr.N = some e → e.Params = (v.Args.length : Int)
 m : v.Instr.Op = 34 ∨ v.Instr.Op = 35 → 0 ≤ v.Instr.N ∧ v.Instr.N < (n : Int)
 p : v.Instr.Op = 38 → 0 ≤ v.Instr.N ∧ v.Instr.N < c.Params
section
variable {q L : List VFunc} {n : Nat} {cl : Nat → Cl} {c : VFunc} {a : List Int}
def CallS (q L : List VFunc) (n : Nat) (cl : Nat → Cl) (x : IT) (f : Int) (a : List Int) : Prop :=
 ∃ v x', Ev (fun K _ => cl K x f a) (v, x') ∧ St L n x' ∧ x'.Most ≤ x.Most ∧ (x'.Long = false → ∀ m, 2 * x.Most ≤ m → m ≤ 1000 → ∃ m', Ev (fun K _ => cl K (twn q x m) f a) (v, twn q x' m') ∧ (x'.Over = false → 2 * x'.Most ≤ m') ∧ m' ≤ m)
def DoS (q L : List VFunc) (n : Nat) (cl : Nat → Cl) (a : List Int) (x : IT) (v : VInstr) (r S : List Int) : Prop :=
 ∃ x' r', Ev (fun K _ => ref32_interpreter_do (cl K) K x v r a) (x', r') ∧ St L n x' ∧ x'.Most ≤ x.Most ∧ r'.length = r.length ∧ (x'.Long = false → ∀ s m, Ag (tr v S) r s → 2 * x.Most ≤ m → m ≤ 1000 →
  ∃ s' m', Ev (fun K _ => ref32_interpreter_do (cl K) K (twn q x m) v s a) (twn q x' m', s') ∧ (x'.Over = false → 2 * x'.Most ≤ m') ∧ m' ≤ m ∧ (x'.Over = false → Ag S r' s'))
theorem do_l1 {v : VInstr} {r : List Int} (hv : v.Args.length ≤ 6) (hr : ∀ z, z ∈ v.Args → idx r z = some (gR r z)) : ∀ (t p : List Int), v.Args = p ++ t → Ev (fun K k => ref32_interpreter_do_l1 K v r k ((p.length : Int), p.map (gR r))) (v.Args.map (gR r)) := by
 intro t
 induction t with
 | nil =>
  intro p hp
  refine Ev.step (fun K k => rfl) (Ev.f (by rw [hp]; simp) ((Ev.some _).cast (by rw [hp]; simp)))
 | cons z t ih =>
  intro p hp
  have hl : p.length < v.Args.length := by rw [hp]; simp
  have hz : idx v.Args (p.length : Int) = some z := idx_eq (by rw [hp]; simp)
  refine Ev.step (fun K k => rfl) (Ev.t (by simp; omega) (Ev.bindO hz (Ev.bindO (hr z (by rw [hp]; simp)) (Ev.bindO (app_eq (by simp; omega) (by simp; omega)) ?_))))
  have e : w64 ((p.length : Int) + 1) = ((p ++ [z]).length : Int) := by rw [w64_id (by omega) (by omega)]; simp
  have e2 : p.map (gR r) ++ [gR r z] = (p ++ [z]).map (gR r) := by simp
  simp only [e, e2]
  exact ih (p ++ [z]) (by rw [hp]; simp)
theorem ev_cargs {v : VInstr} {r : List Int} (hv : v.Args.length ≤ 6) (hr : ∀ z, z ∈ v.Args → idx r z = some (gR r z)) : Ev (fun K _ => ref32_interpreter_do_l1 K v r K (0, [])) (v.Args.map (gR r)) := Ev.loop (do_l1 hv hr v.Args [] rfl)
theorem do_call {x x' : IT} {v : VInstr} {r : List Int} {w : Int} (h6 : v.Instr.Op = 6) (hn : v.Args.length ≤ 6) (hr : ∀ z, z ∈ v.Args → idx r z = some (gR r z)) (hA : idx r v.Instr.A = some (gR r v.Instr.A)) (hc : Ev (fun K _ => cl K x v.Instr.N (v.Args.map (gR r))) (w, x')) :
  Ev (fun K _ => ref32_interpreter_do (cl K) K x v r a) (x', r.set v.Instr.A.toNat w) := by
 unfold ref32_interpreter_do
 refine Ev.f (by simp [h6]) (Ev.t (by simp [h6]) (Ev.bind (ev_cargs hn hr) (Ev.bind hc (Ev.bindO hA (Ev.some _)))))
theorem do_sim {x : IT} {v : VInstr} {r S : List Int} (hv : InsP L n c v) (hx : St L n x) (ho : (x.Out.length : Int) + x.Most ≤ 999) (hr : r.length = c.Regs.toNat) (ha : (a.length : Int) = c.Params)
  (hc : v.Instr.Op = 6 → ∀ b : List Int, (b.length : Int) = v.Args.length → CallS q L n cl x v.Instr.N b) : DoS q L n cl a x v r S := by
 have u := use hv.i.a
 by_cases h6 : v.Instr.Op = 6
 ·have hw := u.w (by omega) (by omega) (by omega)
  have hA : ∀ s : List Int, s.length = r.length → idx s v.Instr.A = some (gR s v.Instr.A) := fun s hs => by
   have := hv.i.w v.Instr.A (by rw [hw]; simp)
   exact idx_gR this.1 (by omega)
  have hR : ∀ s : List Int, s.length = r.length → ∀ z, z ∈ v.Args → idx s z = some (gR s z) := fun s hs z hz => by
   have := hv.i.g z hz
   exact idx_gR this.1 (by omega)
  obtain ⟨w, x', h1, h2, h3, h4⟩ := hc h6 (v.Args.map (gR r)) (by simp)
  refine ⟨x', r.set v.Instr.A.toNat w, do_call h6 hv.i.n (hR r rfl) (hA r rfl) h1, h2, h3, by simp, fun hl s m hag hm hm2 => ?_⟩
  obtain ⟨m', h5, h7, h8⟩ := h4 hl m hm hm2
  have e : v.Args.map (gR s) = v.Args.map (gR r) := List.map_congr_left fun z hz => hag.get (mem_tr.2 (.inr (u.g h6 z hz)))
  refine ⟨s.set v.Instr.A.toNat w, m', do_call h6 hv.i.n (hR s hag.1.symm) (hA s hag.1.symm) (by rw [e]; exact h5), h7, h8, fun _ => hag.set hw w⟩
 ·have hs := doP_st (v := v) (r := r) (a := a) hx ho
  have e : ∀ (y : IT) (s : List Int), y.Fuel = x.Fuel → y.Out = x.Out → y.Cells = x.Cells → s.length = r.length → Ev (fun K _ => ref32_interpreter_do (cl K) K y v s a) (doP y v s a) := fun y s e1 e2 e3 e4 =>
   ⟨0, fun K k _ _ => do_eq hv.i h6 (by omega) (by rw [e1]; exact hx.f) (by rw [e2]; have := hx.o; have := hx.m; omega) (by rw [e3, hx.c]; exact hv.m) (by rw [ha]; exact hv.p)⟩
  refine ⟨(doP x v r a).1, (doP x v r a).2, e x r rfl rfl rfl rfl, hs.1, by omega, hs.2.2.2, fun _ s m hag hm hm2 => ?_⟩
  obtain ⟨h1, h2⟩ := doP_sim (q_ := q) (x := x) (m := m) (a := a) hv.i h6 hag
  refine ⟨(doP (twn q x m) v s a).2, m, ?_, fun _ => by omega, Int.le_refl _, h2⟩
  rw [← h1]
  exact e (twn q x m) s rfl rfl rfl hag.1.symm
end
end Go.Proofs.YtocfnpnnbmicmaaDoor.Tc
end
section
set_option linter.unusedVariables false
set_option linter.unusedSimpArgs false
namespace Go.Proofs.YtocfnpnnbmicmaaDoor.Tc
open Go
abbrev Pk := List Int × List VFunc × Int × Int × Int × Int × List Int × Int × Bool × Bool × List (List Int) × List Int
def pk (r : List Int) (x : IT) : Pk := (r, x.L, x.Fuel, x.Most, x.End.Kind, x.End.Code, x.End.Out, x.End.Value, x.Over, x.Long, x.Cells, x.Out)
def unI (s : Pk) : IT := ⟨s.2.1, s.2.2.2.2.2.2.2.2.2.2.1, s.2.2.1, s.2.2.2.1, s.2.2.2.2.2.2.2.2.2.2.2, ⟨s.2.2.2.2.1, s.2.2.2.2.2.1, s.2.2.2.2.2.2.1, s.2.2.2.2.2.2.2.1⟩, s.2.2.2.2.2.2.2.2.1, s.2.2.2.2.2.2.2.2.2.1⟩
theorem l2_eq (cl : Cl) (K : Nat) (a : List Int) (b : Block) (k : Nat) (i : Int) (r : List Int) (x : IT) : ref32_interpreter_call_l2 cl K a b (k + 1) (i, pk r x) = cnd (((decide (i < (b.Instrs.length : Int))) && (!x.Over)) && (!x.Long)) (Option.bind (Option.bind (ref32_interpreter_step x) (fun t => cnd t.1 (Option.bind (idx b.Instrs i) (fun y => Option.bind (ref32_interpreter_do cl K t.2 y r a) (fun z => some (pk z.2 z.1)))) (some (pk r t.2)))) (fun s => ref32_interpreter_call_l2 cl K a b k (w64 (i + 1), s))) (some (pk r x)) := rfl
def PosR (S : Nat → List Int) (R : Int) (i : Nat) (T U : List VInstr) (e : Int) : Prop :=
 (U = T ∧ 0 ≤ e ∧ e ≤ 1) ∨ (e = 0 ∧ ∃ (k : Nat) (reg val : Int), k ≤ T.length ∧ U = T.take k ++ (⟨⟨13, reg, 0, 0, val⟩, []⟩ : VInstr) :: T.drop k ∧ reg ∉ S (i + k) ∧ 0 ≤ reg ∧ reg < R)
theorem ldi_do {cl : Cl} {K : Nat} {x : IT} {reg val : Int} {s a : List Int} (h0 : 0 ≤ reg) (h1 : reg.toNat < s.length) : ref32_interpreter_do cl K x ⟨⟨13, reg, 0, 0, val⟩, []⟩ s a = some (x, s.set reg.toNat val) := by
 unfold ref32_interpreter_do
 simp [cnd, idx_gR h0 h1]
theorem drop_cons {α : Type} {l t : List α} {i : Nat} {v : α} (h : l.drop i = v :: t) : l[i]? = some v ∧ l.drop (i + 1) = t ∧ i < l.length := by
 have hl : i < l.length := by
  rcases Nat.lt_or_ge i l.length with q | q
  ·exact q
  ·rw [List.drop_eq_nil_of_le q] at h; cases h
 rw [List.drop_eq_getElem_cons hl] at h
 injection h with h1 h2
 exact ⟨by rw [List.getElem?_eq_getElem hl, h1], h2, hl⟩
section
variable {q L : List VFunc} {n : Nat} {cl : Nat → Cl} {c : VFunc} {a : List Int}
theorem l2_out {b : Block} {i : Int} {r : List Int} {x : IT} (h : (((decide (i < (b.Instrs.length : Int))) && (!x.Over)) && (!x.Long)) = false) : Ev (fun K k => ref32_interpreter_call_l2 (cl K) K a b k (i, pk r x)) (pk r x) :=
 Ev.step (fun K k => l2_eq _ _ _ _ _ _ _ _) (Ev.f h (Ev.some _))
theorem l2_in {b : Block} {i : Int} {r r' : List Int} {x y z : IT} {v : VInstr} {t : Pk} (h : (((decide (i < (b.Instrs.length : Int))) && (!x.Over)) && (!x.Long)) = true) (h1 : ref32_interpreter_step x = some (true, y)) (hi : idx b.Instrs i = some v)
  (hd : Ev (fun K _ => ref32_interpreter_do (cl K) K y v r a) (z, r')) (hn : Ev (fun K k => ref32_interpreter_call_l2 (cl K) K a b k (w64 (i + 1), pk r' z)) t) : Ev (fun K k => ref32_interpreter_call_l2 (cl K) K a b k (i, pk r x)) t :=
 Ev.step (fun K k => l2_eq _ _ _ _ _ _ _ _) (Ev.t h (Ev.bind (x := pk r' z) (Ev.bindO h1 (Ev.t rfl (Ev.bindO hi (Ev.bind hd (Ev.some _))))) hn))
theorem L2 {b b2 : Block} {S : Nat → List Int} {M : Int} (hS : ∀ i v, b.Instrs[i]? = some v → S i = tr v (S (i + 1))) (hS0 : ∀ i z, z ∈ S i → 0 ≤ z) (hI : ∀ v, v ∈ b.Instrs → InsP L n c v) (hlen : b.Instrs.length ≤ 17592186044000) (hlen2 : b2.Instrs.length ≤ 17592186044000)
  (ha : (a.length : Int) = c.Params) (hc : ∀ v, v ∈ b.Instrs → v.Instr.Op = 6 → ∀ (x : IT) (bb : List Int), St L n x → x.Most < M → (bb.length : Int) = v.Args.length → CallS q L n cl x v.Instr.N bb) :
  ∀ (T : List VInstr) (i : Nat) (r : List Int) (x : IT), b.Instrs.drop i = T → i ≤ b.Instrs.length → St L n x → x.Most ≤ M → r.length = c.Regs.toNat →
   ∃ x' r', Ev (fun K k => ref32_interpreter_call_l2 (cl K) K a b k ((i : Int), pk r x)) (pk r' x') ∧ St L n x' ∧ x'.Most ≤ x.Most ∧ r'.length = r.length ∧ (x.Long = true → x'.Long = true) ∧
    (x'.Long = false → (x'.Over = true ∨ 1 ≤ x'.Most) → ∀ (s : List Int) (m e : Int) (j : Nat) (U : List VInstr), b2.Instrs.drop j = U → PosR S c.Regs i T U e → (x.Over = false → Ag (S i) r s) → (x.Over = false → 2 * x.Most ≤ m + e) → m ≤ 1000 →
     ∃ s' m', Ev (fun K k => ref32_interpreter_call_l2 (cl K) K a b2 k ((j : Int), pk s (twn q x m))) (pk s' (twn q x' m')) ∧ (x'.Over = false → 2 * x'.Most ≤ m' + 1) ∧ m' ≤ m ∧ (x'.Over = false → Ag (S b.Instrs.length) r' s')) := by
 intro T
 induction T with
 | nil =>
  intro i r x hT hi hx hM hr
  have hil : b.Instrs.length ≤ i := List.drop_eq_nil_iff.1 hT
  have hie : i = b.Instrs.length := by omega
  refine ⟨x, r, l2_out (by rw [decide_eq_false (by omega)]; rfl), hx, Int.le_refl _, rfl, id, fun hl hom s m e j U hU hp hag hm hm2 => ?_⟩
  cases hov : x.Over with
  | true => exact ⟨s, m, l2_out (by show ((_ && !x.Over) && _) = false; rw [hov]; simp), (fun z => by first | cases z; done | (rw [hov] at z; cases z)), Int.le_refl _, (fun z => by first | cases z; done | (rw [hov] at z; cases z))⟩
  | false =>
   have hag := hag hov; have hm := hm hov
   have hom : 1 ≤ x.Most := by
    rcases hom with z | z
    ·rw [hov] at z; cases z
    ·exact z
   have hSi : ∀ s, Ag (S i) r s → Ag (S b.Instrs.length) r s := fun s h => by rw [← hie]; exact h
   rcases hp with ⟨rfl, he0, he1⟩ | ⟨rfl, k, reg, val, hk, hU2, hd, h0, h1⟩
   ·have hj : b2.Instrs.length ≤ j := List.drop_eq_nil_iff.1 hU
    exact ⟨s, m, l2_out (by rw [decide_eq_false (by omega)]; rfl), fun _ => by omega, Int.le_refl _, fun _ => hSi s hag⟩
   ·have hk0 : k = 0 := by simpa using hk
    subst hk0
    rw [hU2] at hU
    obtain ⟨d1, d2, d3⟩ := drop_cons hU
    have hj : b2.Instrs.length ≤ j + 1 := List.drop_eq_nil_iff.1 (by rw [d2]; simp)
    refine ⟨s.set reg.toNat val, m - 1, l2_in (y := dcr (twn q x m)) ?_ (step_1 (show 1 ≤ m by omega) hm2) (idx_eq d1) ⟨0, fun K k _ _ => ldi_do h0 (by rw [← hag.1]; omega)⟩ (l2_out ?_), fun _ => by omega, by omega, fun _ => hSi _ (hag.dead (by simpa using hd) h0 (hS0 i) val)⟩
    ·show ((decide ((j : Int) < _) && !x.Over) && !x.Long) = true
     rw [hov, hl, decide_eq_true (by omega)]; rfl
    ·rw [w64_succ (by omega), decide_eq_false (by omega)]; rfl
 | cons v T ih =>
  intro i r x hT hi hx hM hr
  obtain ⟨d1, d2, d3⟩ := drop_cons hT
  have hv := List.mem_of_getElem? d1
  by_cases hex : x.Over = true ∨ x.Long = true
  ·have ex : ∀ (bb : Block) (j : Int) (y : IT), y.Over = x.Over → y.Long = x.Long → (((decide (j < (bb.Instrs.length : Int))) && (!y.Over)) && (!y.Long)) = false := fun bb j y h1 h2 => by
    rw [h1, h2]; rcases hex with z | z <;> rw [z] <;> simp
   refine ⟨x, r, l2_out (ex _ _ _ rfl rfl), hx, Int.le_refl _, rfl, id, fun hl hom s m e j U hU hp hag hm hm2 => ?_⟩
   have hov : x.Over = true := by
    rcases hex with z | z
    ·exact z
    ·rw [hl] at z; cases z
   exact ⟨s, m, l2_out (ex _ _ _ rfl rfl), (fun z => by first | cases z; done | (rw [hov] at z; cases z)), Int.le_refl _, (fun z => by first | cases z; done | (rw [hov] at z; cases z))⟩
  have hov : x.Over = false := by cases h : x.Over; rfl; exact absurd (.inl h) hex
  have hlo : x.Long = false := by cases h : x.Long; rfl; exact absurd (.inr h) hex
  have cnd1 : ∀ (bb : Block) (j : Int) (y : IT), j < (bb.Instrs.length : Int) → y.Over = x.Over → y.Long = x.Long → (((decide (j < (bb.Instrs.length : Int))) && (!y.Over)) && (!y.Long)) = true := fun bb j y h0 h1 h2 => by
   rw [h1, h2, hov, hlo, decide_eq_true h0]; rfl
  by_cases hm0 : x.Most ≤ 0
  ·refine ⟨lng x, r, Ev.step (fun K k => l2_eq _ _ _ _ _ _ _ _) (Ev.t (cnd1 _ _ _ (by omega) rfl rfl) (Ev.bind (x := pk r (lng x)) (Ev.bindO (step_0 hm0) (Ev.f rfl (Ev.some _))) (l2_out (by show ((_ && _) && !true) = false; simp)))), hx.lng, Int.le_refl _, rfl, fun _ => rfl, fun hl => by cases hl⟩
  have hm1 : 1 ≤ x.Most := by omega
  obtain ⟨x1, r1, e1, st1, mo1, len1, sim1⟩ := do_sim (q := q) (cl := cl) (S := S (i + 1)) (hI v hv) (hx.dcr hm1) (by have := hx.o; show (x.Out.length : Int) + (x.Most - 1) ≤ 999; omega) hr ha (fun h6 bb hbb => hc v hv h6 (dcr x) bb (hx.dcr hm1) (by show x.Most - 1 < M; omega) hbb)
  have mo1 : x1.Most ≤ x.Most - 1 := mo1
  obtain ⟨x', r', e2, st', mo', len', lg, sim2⟩ := ih (i + 1) r1 x1 d2 d3 st1 (by omega) (by omega)
  refine ⟨x', r', l2_in (cnd1 _ _ _ (by omega) rfl rfl) (step_1 hm1 hx.m.2) (idx_eq d1) e1 (by rw [w64_succ (by omega)]; exact e2), st', by omega, by omega, (fun z => by rw [hlo] at z; cases z), fun hl hom s m e j U hU hp hag hm hm2 => ?_⟩
  have hag := hag hov; have hm := hm hov
  have hx1l : x1.Long = false := by
   cases h : x1.Long with
   | false => rfl
   | true => rw [lg h] at hl; cases hl
  have core : ∀ (s : List Int) (m e : Int) (j : Nat) (U : List VInstr), b2.Instrs.drop j = v :: U → PosR S c.Regs (i + 1) T U 0 → Ag (S i) r s → 2 * x.Most ≤ m + e → e ≤ 1 → m ≤ 1000 →
    ∃ s' m', Ev (fun K k => ref32_interpreter_call_l2 (cl K) K a b2 k ((j : Int), pk s (twn q x m))) (pk s' (twn q x' m')) ∧ (x'.Over = false → 2 * x'.Most ≤ m' + 1) ∧ m' ≤ m ∧ (x'.Over = false → Ag (S b.Instrs.length) r' s') := by
   intro s m e j U hU hp hag hm he hm2
   obtain ⟨f1, f2, f3⟩ := drop_cons hU
   rw [hS i v d1] at hag
   obtain ⟨s1, m1, e3, hm3, hm4, ag1⟩ := sim1 hx1l s (m - 1) hag (by show 2 * (x.Most - 1) ≤ m - 1; omega) (by omega)
   obtain ⟨s', m', e4, h5, h6, h7⟩ := sim2 hl hom s1 m1 0 (j + 1) U f2 hp ag1 (fun z => by have := hm3 z; omega) (by omega)
   exact ⟨s', m', l2_in (y := dcr (twn q x m)) (cnd1 _ _ _ (by omega) rfl rfl) (step_1 (show 1 ≤ m by omega) hm2) (idx_eq f1) e3 (by rw [w64_succ (by omega)]; exact e4), h5, by omega, h7⟩
  rcases hp with ⟨rfl, he0, he1⟩ | ⟨rfl, k, reg, val, hk, hU2, hd, h0, h1⟩
  ·exact core s m e j T hU (.inl ⟨rfl, by omega, by omega⟩) hag hm he1 hm2
  ·cases k with
   | zero =>
    rw [hU2] at hU
    obtain ⟨f1, f2, f3⟩ := drop_cons hU
    obtain ⟨s', m', e4, h5, h6, h7⟩ := core (s.set reg.toNat val) (m - 1) 1 (j + 1) T f2 (.inl ⟨rfl, by omega, by omega⟩) (hag.dead (by simpa using hd) h0 (hS0 i) val) (by omega) (by omega) (by omega)
    exact ⟨s', m', l2_in (y := dcr (twn q x m)) (cnd1 _ _ _ (by omega) rfl rfl) (step_1 (show 1 ≤ m by omega) hm2) (idx_eq f1) ⟨0, fun K k _ _ => ldi_do h0 (by rw [← hag.1]; omega)⟩ (by rw [w64_succ (by omega)]; exact e4), h5, by omega, h7⟩
   | succ k =>
    rw [hU2] at hU
    exact core s m 0 j _ hU (.inr ⟨rfl, k, reg, val, by simpa using hk, rfl, by rw [show i + 1 + k = i + (k + 1) by omega]; exact hd, h0, h1⟩) hag hm (by omega) hm2
end
end Go.Proofs.YtocfnpnnbmicmaaDoor.Tc
end
section
set_option linter.unusedVariables false
set_option linter.unusedSimpArgs false
namespace Go.Proofs.YtocfnpnnbmicmaaDoor.Tc
open Go
def fin (res : Pk ⊕ (Int × IT)) : Int × IT := match res with | .inl s => (0, unI s) | .inr p => p
def tl1 (cl : Cl) (K : Nat) (a : List Int) (c : VFunc) (k : Nat) (b : Int) (y : Block) (r : List Int) (x : IT) : Option (Pk ⊕ (Int × IT)) :=
 cnd (y.End == 1) (ref32_interpreter_call_l1 cl K a c k (y.Target, pk r x)) (cnd (y.End == 2) (Option.bind (idx r y.Reg) (fun w => cnd (w != 0) (ref32_interpreter_call_l1 cl K a c k (y.Target, pk r x)) (ref32_interpreter_call_l1 cl K a c k (y.Else, pk r x))))
  (cnd (y.End == 3) (Option.bind (idx r y.Reg) (fun w => out (some (w, x)))) (Option.bind (ref32_interpreter_stop x 2 y.Target) (fun z => ref32_interpreter_call_l1 cl K a c k (b, pk r z)))))
theorem l1_eq (cl : Cl) (K : Nat) (a : List Int) (c : VFunc) (k : Nat) (b : Int) (r : List Int) (x : IT) : ref32_interpreter_call_l1 cl K a c (k + 1) (b, pk r x) = cnd ((!x.Over) && (!x.Long)) (Option.bind (idx c.Blocks b) (fun y => Option.bind (ref32_interpreter_call_l2 cl K a y K (0, pk r x)) (fun s => cnd ((unI s).Over || (unI s).Long) (out (some (0, unI s))) (Option.bind (ref32_interpreter_step (unI s)) (fun t => cnd (!t.1) (out (some (0, t.2))) (tl1 cl K a c k b y s.1 t.2)))))) (inn (pk r x)) := rfl
section
variable {q L : List VFunc} {n : Nat} {cl : Nat → Cl} {c c2 : VFunc} {a : List Int}
theorem l1_out {b : Int} {r : List Int} {x : IT} (h : ((!x.Over) && (!x.Long)) = false) : Ev (fun K k => ref32_interpreter_call_l1 (cl K) K a c k (b, pk r x)) (.inl (pk r x)) :=
 Ev.step (fun K k => l1_eq _ _ _ _ _ _ _ _) (Ev.f h (Ev.inn _))
theorem l1_end {b : Int} {blk : Block} {r r1 : List Int} {x x1 : IT} (c1 : ((!x.Over) && (!x.Long)) = true) (hb : idx c.Blocks b = some blk) (e : Ev (fun K k => ref32_interpreter_call_l2 (cl K) K a blk k (0, pk r x)) (pk r1 x1)) (ho : (x1.Over || x1.Long) = true) :
  Ev (fun K k => ref32_interpreter_call_l1 (cl K) K a c k (b, pk r x)) (.inr (0, x1)) :=
 Ev.step (fun K k => l1_eq _ _ _ _ _ _ _ _) (Ev.t c1 (Ev.bindO hb (Ev.bind (Ev.loop e) (Ev.t ho (Ev.out (Ev.some _))))))
theorem l1_lng {b : Int} {blk : Block} {r r1 : List Int} {x x1 : IT} (c1 : ((!x.Over) && (!x.Long)) = true) (hb : idx c.Blocks b = some blk) (e : Ev (fun K k => ref32_interpreter_call_l2 (cl K) K a blk k (0, pk r x)) (pk r1 x1)) (ho : (x1.Over || x1.Long) = false) (hm : x1.Most ≤ 0) :
  Ev (fun K k => ref32_interpreter_call_l1 (cl K) K a c k (b, pk r x)) (.inr (0, lng x1)) :=
 Ev.step (fun K k => l1_eq _ _ _ _ _ _ _ _) (Ev.t c1 (Ev.bindO hb (Ev.bind (Ev.loop e) (Ev.f ho (Ev.bindO (step_0 hm) (Ev.t rfl (Ev.out (Ev.some _))))))))
theorem l1_go {b : Int} {blk : Block} {r r1 : List Int} {x x1 y : IT} {res : Pk ⊕ (Int × IT)} (c1 : ((!x.Over) && (!x.Long)) = true) (hb : idx c.Blocks b = some blk) (e : Ev (fun K k => ref32_interpreter_call_l2 (cl K) K a blk k (0, pk r x)) (pk r1 x1)) (ho : (x1.Over || x1.Long) = false) (hs : ref32_interpreter_step x1 = some (true, y))
  (ht : Ev (fun K k => tl1 (cl K) K a c k b blk r1 y) res) : Ev (fun K k => ref32_interpreter_call_l1 (cl K) K a c k (b, pk r x)) res :=
 Ev.step (fun K k => l1_eq _ _ _ _ _ _ _ _) (Ev.t c1 (Ev.bindO hb (Ev.bind (Ev.loop e) (Ev.f ho (Ev.bindO hs (Ev.f rfl ht))))))
structure C2 (c c2 : VFunc) : Prop where
 r : c2.Regs = c.Regs
 b : ∀ b, b < c.Blocks.length → ∃ J : List VInstr, c2.Blocks[b]? = some ⟨J, (bk c b).End, (bk c b).Reg, (bk c b).Target, (bk c b).Else⟩ ∧ J.length ≤ 17592186044000 ∧ PosR (lp (bk c b) (LO c b)) c.Regs 0 (bk c b).Instrs J 0
theorem L1 {M : Int} (hV : Vd c) (hI : ∀ b, b < c.Blocks.length → ∀ v, v ∈ (bk c b).Instrs → InsP L n c v) (h2 : C2 c c2) (ha : (a.length : Int) = c.Params)
  (hc : ∀ b, b < c.Blocks.length → ∀ v, v ∈ (bk c b).Instrs → v.Instr.Op = 6 → ∀ (x : IT) (bb : List Int), St L n x → x.Most < M → (bb.length : Int) = v.Args.length → CallS q L n cl x v.Instr.N bb) :
  ∀ (N : Nat) (b : Nat) (r : List Int) (x : IT), b < c.Blocks.length → x.Most ≤ N → x.Most ≤ M → St L n x → r.length = c.Regs.toNat →
   ∃ res, Ev (fun K k => ref32_interpreter_call_l1 (cl K) K a c k ((b : Int), pk r x)) res ∧ St L n (fin res).2 ∧ (fin res).2.Most ≤ x.Most ∧ ((fin res).2.Long = false → ∀ (s : List Int) (m : Int), (x.Over = false → Ag (LI c b) r s) → (x.Over = false → 2 * x.Most ≤ m) → m ≤ 1000 →
    ∃ res2 m', Ev (fun K k => ref32_interpreter_call_l1 (cl K) K a c2 k ((b : Int), pk s (twn q x m))) res2 ∧ fin res2 = ((fin res).1, twn q (fin res).2 m') ∧ ((fin res).2.Over = false → 2 * (fin res).2.Most ≤ m') ∧ m' ≤ m) := by
 intro N
 induction N using Nat.strongRecOn with
 | ind N ih =>
 intro b r x hb hN hM hx hr
 by_cases hex : x.Over = true ∨ x.Long = true
 ·have ex : ((!x.Over) && (!x.Long)) = false := by rcases hex with z | z <;> rw [z] <;> simp
  refine ⟨.inl (pk r x), l1_out ex, hx, Int.le_refl _, fun hl s m hag hm hm2 => ⟨.inl (pk s (twn q x m)), m, l1_out ex, rfl, hm, Int.le_refl _⟩⟩
 have hov : x.Over = false := by cases h : x.Over; rfl; exact absurd (.inl h) hex
 have hlo : x.Long = false := by cases h : x.Long; rfl; exact absurd (.inr h) hex
 have c1 : ((!x.Over) && (!x.Long)) = true := by rw [hov, hlo]; rfl
 obtain ⟨J, hJ, hJl, hP⟩ := h2.b b hb
 have hrs : ∀ i, RS c (lp (bk c b) (LO c b) i) := fun i => RS.lp (hV.iv hb) (hV.e hb) (RS.LO hV b) i
 obtain ⟨x1, r1, e1, st1, mo1, len1, lg1, sim1⟩ := L2 (q := q) (b := bk c b) (b2 := ⟨J, (bk c b).End, (bk c b).Reg, (bk c b).Target, (bk c b).Else⟩) (S := lp (bk c b) (LO c b)) (M := M) (fun i v hv => lp_step hv) (fun i z hz => ((hrs i).r z hz).1) (hI b hb) (by have := hV.len hb; omega) hJl ha (hc b hb) (bk c b).Instrs 0 r x rfl (Nat.zero_le _) hx hM hr
 have hb2 : idx c2.Blocks (b : Int) = some ⟨J, (bk c b).End, (bk c b).Reg, (bk c b).Target, (bk c b).Else⟩ := idx_eq hJ
 have pre : x1.Long = false → (x1.Over = true ∨ 1 ≤ x1.Most) → ∀ (s : List Int) (m : Int), Ag (LI c b) r s → 2 * x.Most ≤ m → m ≤ 1000 → ∃ s1 m1, Ev (fun K k => ref32_interpreter_call_l2 (cl K) K a ⟨J, (bk c b).End, (bk c b).Reg, (bk c b).Target, (bk c b).Else⟩ k (0, pk s (twn q x m))) (pk s1 (twn q x1 m1)) ∧ (x1.Over = false → 2 * x1.Most ≤ m1 + 1) ∧ m1 ≤ m ∧ (x1.Over = false → Ag (uni (LO c b) (er (bk c b))) r1 s1) := fun hl hom s m hag hm hm2 => by
  obtain ⟨s1, m1, e2, h5, h6, h7⟩ := sim1 hl hom s m 0 0 J rfl hP (fun _ => by rw [lp_zero, ← LI_eq hV hb]; exact hag) (fun _ => by omega) hm2
  exact ⟨s1, m1, e2, h5, h6, fun z => by rw [← lp_last]; exact h7 z⟩
 have e1 : Ev (fun K k => ref32_interpreter_call_l2 (cl K) K a (bk c b) k (0, pk r x)) (pk r1 x1) := e1
 cases ho : (x1.Over || x1.Long) with
 | true =>
  refine ⟨.inr (0, x1), l1_end c1 (bk_idx hb) e1 ho, st1, mo1, fun hl s m hag hm hm2 => ?_⟩
  have hl : x1.Long = false := hl
  have hov1 : x1.Over = true := by rw [hl] at ho; simpa using ho
  obtain ⟨s1, m1, e2, h5, h6, h7⟩ := pre hl (.inl hov1) s m (hag hov) (hm hov) hm2
  exact ⟨.inr (0, twn q x1 m1), m1, l1_end c1 hb2 e2 ho, rfl, fun z => absurd (hov1.symm.trans z) (by simp), h6⟩
 | false =>
  rw [Bool.or_eq_false_iff] at ho
  have ho' : (x1.Over || x1.Long) = false := by rw [ho.1, ho.2]; rfl
  by_cases hm0 : x1.Most ≤ 0
  ·exact ⟨.inr (0, lng x1), l1_lng c1 (bk_idx hb) e1 ho' hm0, st1.lng, mo1, fun hl => by cases hl⟩
  have hm1 : 1 ≤ x1.Most := by omega
  have ste : ref32_interpreter_step x1 = some (true, dcr x1) := step_1 hm1 st1.m.2
  have hN1 : N - 1 < N := by omega
  have run2 : ∀ (s : List Int) (m : Int), (x.Over = false → Ag (LI c b) r s) → (x.Over = false → 2 * x.Most ≤ m) → m ≤ 1000 → ∃ s1 m1, Ev (fun K k => ref32_interpreter_call_l2 (cl K) K a ⟨J, (bk c b).End, (bk c b).Reg, (bk c b).Target, (bk c b).Else⟩ k (0, pk s (twn q x m))) (pk s1 (twn q x1 m1)) ∧ 2 * (x1.Most - 1) ≤ m1 - 1 ∧ m1 - 1 ≤ m ∧ m1 ≤ 1000 ∧ Ag (uni (LO c b) (er (bk c b))) r1 s1 ∧ ref32_interpreter_step (twn q x1 m1) = some (true, twn q (dcr x1) (m1 - 1)) := fun s m hag hm hm2 => by
   obtain ⟨s1, m1, e2, h5, h6, h7⟩ := pre ho.2 (.inr hm1) s m (hag hov) (hm hov) hm2
   have h5 := h5 ho.1
   exact ⟨s1, m1, e2, by omega, by omega, by omega, h7 ho.1, step_1 (show 1 ≤ m1 by omega) (by show m1 ≤ 1000; omega)⟩
  -- what goes on in another block
  have jump : ∀ t : Int, t ∈ su (bk c b) → ∃ res, Ev (fun K k => ref32_interpreter_call_l1 (cl K) K a c k (t, pk r1 (dcr x1))) res ∧ St L n (fin res).2 ∧ (fin res).2.Most ≤ x.Most ∧ ((fin res).2.Long = false → ∀ (s1 : List Int) (m1 : Int), Ag (uni (LO c b) (er (bk c b))) r1 s1 → 2 * (x1.Most - 1) ≤ m1 → m1 ≤ 1000 →
    ∃ res2 m', Ev (fun K k => ref32_interpreter_call_l1 (cl K) K a c2 k (t, pk s1 (twn q (dcr x1) m1))) res2 ∧ fin res2 = ((fin res).1, twn q (fin res).2 m') ∧ ((fin res).2.Over = false → 2 * (fin res).2.Most ≤ m') ∧ m' ≤ m1) := fun t ht => by
   have h0 := (hV.e hb).s t ht
   have ett : ((t.toNat : Nat) : Int) = t := by omega
   obtain ⟨res, e3, st3, mo3, sim3⟩ := ih (N - 1) hN1 t.toNat r1 (dcr x1) (hV.suc hb ht) (by show x1.Most - 1 ≤ _; omega) (by show x1.Most - 1 ≤ _; omega) (st1.dcr hm1) (by omega)
   rw [ett] at e3 sim3
   have mo3 : (fin res).2.Most ≤ x1.Most - 1 := mo3
   refine ⟨res, e3, st3, by omega, fun hl s1 m1 hag hm hm2 => sim3 hl s1 m1 (fun _ => hag.sub fun z hz => mem_uni.2 (.inl ?_)) (fun _ => hm) hm2⟩
   exact mem_U.2 ⟨t, ht, hz⟩
  have hreg : (bk c b).End = 2 ∨ (bk c b).End = 3 → (bk c b).Reg ∈ er (bk c b) ∧ 0 ≤ (bk c b).Reg ∧ (bk c b).Reg < c.Regs := fun he => by
   have : er (bk c b) = [(bk c b).Reg] := by unfold er; rcases he with z | z <;> rw [z] <;> rfl
   exact ⟨by rw [this]; simp, (hV.e hb).e _ (by rw [this]; simp)⟩
  rcases (hV.e hb).o with hE | hE | hE | hE
  ·obtain ⟨res, e3, st3, mo3, sim3⟩ := jump (bk c b).Target (by unfold su; rw [hE]; simp)
   refine ⟨res, l1_go c1 (bk_idx hb) e1 ho' ste (Ev.t (by rw [hE]; rfl) e3), st3, mo3, fun hl s m hag hm hm2 => ?_⟩
   obtain ⟨s1, m1, e2, h5, h6, h7, h8, h9⟩ := run2 s m hag hm hm2
   obtain ⟨res2, m', e4, h10, h11, h12⟩ := sim3 hl s1 (m1 - 1) h8 h5 (by omega)
   exact ⟨res2, m', l1_go c1 hb2 e2 ho' h9 (Ev.t (by show ((bk c b).End == 1) = true; rw [hE]; rfl) e4), h10, h11, by omega⟩
  ·have hg := hreg (.inl hE)
   have hi : ∀ s : List Int, s.length = r1.length → idx s (bk c b).Reg = some (gR s (bk c b).Reg) := fun s hs => idx_gR hg.2.1 (by omega)
   have hs2 : ∀ s1, Ag (uni (LO c b) (er (bk c b))) r1 s1 → gR s1 (bk c b).Reg = gR r1 (bk c b).Reg := fun s1 h => h.get (mem_uni.2 (.inr hg.1))
   have hne : ((bk c b).End == 1) = false := by rw [hE]; rfl
   have hne2 : ((bk c b).End == 2) = true := by rw [hE]; rfl
   have hsu : su (bk c b) = ins [(bk c b).Target] (bk c b).Else := by unfold su; rw [hE]; rfl
   cases hz : (gR r1 (bk c b).Reg != 0) with
   | true =>
    obtain ⟨res, e3, st3, mo3, sim3⟩ := jump (bk c b).Target (by rw [hsu, mem_ins]; simp)
    refine ⟨res, l1_go c1 (bk_idx hb) e1 ho' ste (Ev.f hne (Ev.t hne2 (Ev.bindO (hi r1 rfl) (Ev.t hz e3)))), st3, mo3, fun hl s m hag hm hm2 => ?_⟩
    obtain ⟨s1, m1, e2, h5, h6, h7, h8, h9⟩ := run2 s m hag hm hm2
    obtain ⟨res2, m', e4, h10, h11, h12⟩ := sim3 hl s1 (m1 - 1) h8 h5 (by omega)
    exact ⟨res2, m', l1_go c1 hb2 e2 ho' h9 (Ev.f hne (Ev.t hne2 (Ev.bindO (hi s1 h8.1.symm) (Ev.t (by rw [hs2 s1 h8]; exact hz) e4)))), h10, h11, by omega⟩
   | false =>
    obtain ⟨res, e3, st3, mo3, sim3⟩ := jump (bk c b).Else (by rw [hsu, mem_ins]; simp)
    refine ⟨res, l1_go c1 (bk_idx hb) e1 ho' ste (Ev.f hne (Ev.t hne2 (Ev.bindO (hi r1 rfl) (Ev.f hz e3)))), st3, mo3, fun hl s m hag hm hm2 => ?_⟩
    obtain ⟨s1, m1, e2, h5, h6, h7, h8, h9⟩ := run2 s m hag hm hm2
    obtain ⟨res2, m', e4, h10, h11, h12⟩ := sim3 hl s1 (m1 - 1) h8 h5 (by omega)
    exact ⟨res2, m', l1_go c1 hb2 e2 ho' h9 (Ev.f hne (Ev.t hne2 (Ev.bindO (hi s1 h8.1.symm) (Ev.f (by rw [hs2 s1 h8]; exact hz) e4)))), h10, h11, by omega⟩
  ·have hg := hreg (.inr hE)
   have hi : ∀ s : List Int, s.length = r1.length → idx s (bk c b).Reg = some (gR s (bk c b).Reg) := fun s hs => idx_gR hg.2.1 (by omega)
   have hne : ((bk c b).End == 1) = false := by rw [hE]; rfl
   have hne2 : ((bk c b).End == 2) = false := by rw [hE]; rfl
   have hne3 : ((bk c b).End == 3) = true := by rw [hE]; rfl
   refine ⟨.inr (gR r1 (bk c b).Reg, dcr x1), l1_go c1 (bk_idx hb) e1 ho' ste (Ev.f hne (Ev.f hne2 (Ev.t hne3 (Ev.bindO (hi r1 rfl) (Ev.out (Ev.some _)))))), st1.dcr hm1, by show x1.Most - 1 ≤ _; omega, fun hl s m hag hm hm2 => ?_⟩
   obtain ⟨s1, m1, e2, h5, h6, h7, h8, h9⟩ := run2 s m hag hm hm2
   have hs2 : gR s1 (bk c b).Reg = gR r1 (bk c b).Reg := h8.get (mem_uni.2 (.inr hg.1))
   exact ⟨.inr (gR s1 (bk c b).Reg, twn q (dcr x1) (m1 - 1)), m1 - 1, l1_go c1 hb2 e2 ho' h9 (Ev.f hne (Ev.f hne2 (Ev.t hne3 (Ev.bindO (hi s1 h8.1.symm) (Ev.out (Ev.some _)))))), by rw [hs2]; rfl, fun _ => h5, h6⟩
  ·have hne : ((bk c b).End == 1) = false := by rw [hE]; rfl
   have hne2 : ((bk c b).End == 2) = false := by rw [hE]; rfl
   have hne3 : ((bk c b).End == 3) = false := by rw [hE]; rfl
   have st4 := st1.dcr hm1
   refine ⟨.inl (pk r1 (stp (dcr x1) 2 (bk c b).Target)), l1_go c1 (bk_idx hb) e1 ho' ste (Ev.f hne (Ev.f hne2 (Ev.f hne3 (Ev.bindO (stop_eq _ _ _) (l1_out (by show ((!true) && _) = false; rfl)))))), ⟨st4.l, st4.c, st4.f, st4.m, st4.o⟩, by show x1.Most - 1 ≤ _; omega, fun hl s m hag hm hm2 => ?_⟩
   obtain ⟨s1, m1, e2, h5, h6, h7, h8, h9⟩ := run2 s m hag hm hm2
   exact ⟨.inl (pk s1 (stp (twn q (dcr x1) (m1 - 1)) 2 (bk c b).Target)), m1 - 1, l1_go c1 hb2 e2 ho' h9 (Ev.f hne (Ev.f hne2 (Ev.f hne3 (Ev.bindO (stop_eq _ _ _) (l1_out (by show ((!true) && _) = false; rfl)))))), rfl, (fun z => by cases z), h6⟩
end
end Go.Proofs.YtocfnpnnbmicmaaDoor.Tc
end
section
set_option linter.unusedVariables false
set_option linter.unusedSimpArgs false
namespace Go.Proofs.YtocfnpnnbmicmaaDoor.Tc
open Go
theorem call1_of {cl : Nat → Cl} {a : List Int} {x : IT} {f : Int} {c : VFunc} {res : Pk ⊕ (Int × IT)} (hf : idx x.L f = some c) (h0 : 0 ≤ c.Regs) (h1 : c.Regs ≤ 3000) (h : Ev (fun K k => ref32_interpreter_call_l1 (cl K) K a c k (0, pk (List.replicate c.Regs.toNat 0) x)) res) : Ev (fun K _ => ref32_interpreter_call1 (cl K) K x f a) (fin res) := by
 have hm : mk 8 c.Regs (0 : Int) = some (List.replicate c.Regs.toNat 0) := by
  have := mk_eq (bytes := 8) (n := c.Regs.toNat) (y := (0 : Int)) (by omega) (by omega)
  rwa [show ((c.Regs.toNat : Nat) : Int) = c.Regs by omega] at this
 unfold ref32_interpreter_call1
 refine Ev.bindO hf (Ev.bindO hm ?_)
 cases res with
 | inl s => exact Ev.sql (Ev.loop h) (Ev.some _)
 | inr p => exact Ev.sqr (Ev.loop h)
theorem ev_depth {d : Nat} {x : IT} {f : Int} {a : List Int} {r : Int × IT} (h : Ev (fun K _ => ref32_interpreter_call1 (ref32_call K (K - (d + 1))) K x f a) r) : Ev (fun K _ => ref32_call K (K - d) x f a) r := by
 obtain ⟨N, h⟩ := h
 refine ⟨max N (d + 1), fun K k hK hk => ?_⟩
 have e : K - d = (K - (d + 1)) + 1 := by omega
 show ref32_call K (K - d) x f a = some r
 rw [e]
 exact h K k (by omega) (by omega)
structure PV (L : List VFunc) (n : Nat) : Prop where
 v : ∀ f c, idx L f = some c → Vd c
 i : ∀ f c, idx L f = some c → ∀ b, b < c.Blocks.length → ∀ v, v ∈ (bk c b).Instrs → InsP L n c v
theorem idx_ex {α : Type} {l : List α} {i : Int} (h0 : 0 ≤ i) (h1 : i < (l.length : Int)) : ∃ y, idx l i = some y := by
 have hlt : i.toNat < l.length := by omega
 have := idx_get hlt
 rw [show ((i.toNat : Nat) : Int) = i by omega] at this
 exact ⟨_, this⟩
theorem callS_all {q L : List VFunc} {n : Nat} (hp : PV L n) (hq : ∀ f c, idx L f = some c → ∃ c2, idx q f = some c2 ∧ C2 c c2) : ∀ (N d : Nat) (x : IT) (f : Int) (a : List Int), x.Most ≤ N → St L n x → (∃ c, idx L f = some c ∧ (a.length : Int) = c.Params) → CallS q L n (fun K => ref32_call K (K - d)) x f a := by
 intro N
 induction N using Nat.strongRecOn with
 | ind N ih =>
 intro d x f a hN hx hcc
 obtain ⟨c, hf, ha⟩ := hcc
 obtain ⟨c2, hf2, h2⟩ := hq f c hf
 have hV := hp.v f c hf
 have hH := hV.h
 obtain ⟨res, e, st, mo, sim⟩ := L1 (q := q) (cl := fun K => ref32_call K (K - (d + 1))) (M := x.Most) hV (hp.i f c hf) h2 ha (fun b hb v hv h6 y bb hy hlt hbb => by
  have hg := (hp.i f c hf b hb v hv).g h6
  obtain ⟨e, he⟩ := idx_ex hg.1 hg.2.1
  have := hy.m
  exact ih (N - 1) (by omega) (d + 1) y v.Instr.N bb (by omega) hy ⟨e, he, by rw [hg.2.2 e he]; exact hbb⟩) N 0 (List.replicate c.Regs.toNat 0) x (by have := hH.b0; omega) hN (Int.le_refl _) hx (by simp)
 refine ⟨(fin res).1, (fin res).2, ev_depth (call1_of (by rw [hx.l]; exact hf) hH.r0 hH.r1 e), st, mo, fun hl m hm hm2 => ?_⟩
 obtain ⟨res2, m', e2, h3, h4, h5⟩ := sim hl (List.replicate c.Regs.toNat 0) m (fun _ => ⟨rfl, fun _ _ => rfl⟩) (fun _ => hm) hm2
 refine ⟨m', ev_depth ?_, h4, h5⟩
 show Ev _ ((fin res).1, twn q (fin res).2 m')
 rw [← h3]
 exact call1_of (cl := fun K => ref32_call K (K - (d + 1))) (x := twn q x m) hf2 (by rw [h2.r]; exact hH.r0) (by rw [h2.r]; exact hH.r1) (by rw [h2.r]; exact e2)
def outc (v : Int) (x : IT) : Outcome × Bool := if x.Long then (⟨0, 0, [], 0⟩, false) else (if x.Over then ⟨x.End.Kind, x.End.Code, x.Out, x.End.Value⟩ else ⟨1, 0, x.Out, v⟩, true)
theorem run_l1 : Ev (fun K k => ref32_Run_l1 K [3, 2] k (0, [])) [[0, 0, 0], [0, 0]] := ⟨5, fun K k hK hk => by
 obtain ⟨k', rfl⟩ : ∃ k', k = k' + 5 := ⟨k - 5, by omega⟩
 kernel_rfl⟩
def x0 (L : List VFunc) (fuel most : Int) : IT := ⟨L, [[0, 0, 0], [0, 0]], fuel, most, [], ⟨0, 0, [], 0⟩, false, false⟩
theorem ev_run {L : List VFunc} {f fuel most v : Int} {args : List Int} {c : VFunc} {x' : IT} (hv : Ev (fun K _ => ref32_ValidProgram K L [3, 2]) true) (hf : idx L f = some c) (ha : (args.length : Int) = c.Params) (h0 : 0 ≤ fuel) (h1 : fuel ≤ 1000) (hc : Ev (fun K _ => ref32_call K (K - 0) (x0 L fuel most) f args) (v, x')) :
  Ev (fun K _ => ref32_Run K L [3, 2] f args fuel most) (outc v x') := by
 obtain ⟨q0, q1, _⟩ := idx_some hf
 unfold ref32_Run
 refine Ev.bind hv (Ev.bind (x := false) (Ev.f ?_ (Ev.bindO hf ((Ev.some _).cast (by rw [ha]; simp)))) (Ev.f ?_ (Ev.bind (Ev.loop run_l1) (Ev.bind hc ?_))))
 ·rw [decide_eq_false (by omega), decide_eq_false (by omega)]; rfl
 ·rw [decide_eq_false (by omega), decide_eq_false (by omega)]; rfl
 ·unfold outc
  cases hl : x'.Long with
  | true => exact Ev.t rfl ((Ev.some _).cast (by simp))
  | false =>
   refine Ev.f rfl ?_
   cases ho : x'.Over with
   | true => exact Ev.bind (Ev.f rfl (Ev.some _)) ((Ev.some _).cast (by simp))
   | false => exact Ev.bind (Ev.t rfl (Ev.some _)) ((Ev.some _).cast (by simp))
theorem ev_run0 {L : List VFunc} {f fuel most : Int} {args : List Int} (hv : Ev (fun K _ => ref32_ValidProgram K L [3, 2]) false) : Ev (fun K _ => ref32_Run K L [3, 2] f args fuel most) (⟨0, 0, [], 0⟩, false) := by
 unfold ref32_Run
 exact Ev.bind hv (Ev.bind (x := true) (Ev.t rfl (Ev.some _)) (Ev.t rfl (Ev.some _)))
theorem C2.refl {c : VFunc} (h : Vd c) : C2 c c := ⟨rfl, fun b hb => ⟨(bk c b).Instrs, bk_get hb, by have := h.len hb; omega, .inl ⟨rfl, by omega, by omega⟩⟩⟩
theorem run_both {q L : List VFunc} (hp : PV L 2) (hp2 : PV q 2) (hq : ∀ f c, idx L f = some c → ∃ c2, idx q f = some c2 ∧ C2 c c2) (hv : Ev (fun K _ => ref32_ValidProgram K L [3, 2]) true) (hv2 : Ev (fun K _ => ref32_ValidProgram K q [3, 2]) true) {f fuel : Int} {args : List Int} {c c2 : VFunc}
  (hf : idx L f = some c) (ha : (args.length : Int) = c.Params) (hf2 : idx q f = some c2) (ha2 : c2.Params = c.Params) (h0 : 0 ≤ fuel) (h1 : fuel ≤ 1000) : ∃ y z, Ev (fun K _ => ref32_Run K L [3, 2] f args fuel 100) y ∧ Ev (fun K _ => ref32_Run K q [3, 2] f args fuel 300) z ∧ y.1.Out.length ≤ 1000 ∧ (y.2 = true → z = y) := by
 obtain ⟨v, x', e1, st, mo, sim⟩ := callS_all (q := q) hp hq 100 0 (x0 L fuel 100) f args (by show (100 : Int) ≤ _; omega) ⟨rfl, rfl, ⟨h0, h1⟩, ⟨by show (0 : Int) ≤ 100; omega, by show (100 : Int) ≤ 1000; omega⟩, by show ((0 : Nat) : Int) + 100 ≤ 1000; omega⟩ ⟨c, hf, ha⟩
 have hout : (outc v x').1.Out.length ≤ 1000 := by
  have := st.o; have := st.m
  unfold outc; split
  ·simp
  ·simp only []; split <;> simp <;> omega
 cases hl : x'.Long with
 | false =>
  obtain ⟨m', e2, _, _⟩ := sim hl 300 (by show 2 * (100 : Int) ≤ 300; omega) (by omega)
  refine ⟨_, _, ev_run hv hf ha h0 h1 e1, ev_run hv2 hf2 (by rw [ha2]; exact ha) h0 h1 e2, hout, fun _ => rfl⟩
 | true =>
  -- what the second run answers is of no account: that it answers is shown by running it against itself
  obtain ⟨w, y', e2, _, _, _⟩ := callS_all (q := q) hp2 (fun f c hc => ⟨c, hc, C2.refl (hp2.v f c hc)⟩) 300 0 (x0 q fuel 300) f args (by show (300 : Int) ≤ _; omega) ⟨rfl, rfl, ⟨h0, h1⟩, ⟨by show (0 : Int) ≤ 300; omega, by show (300 : Int) ≤ 1000; omega⟩, by show ((0 : Nat) : Int) + 300 ≤ 1000; omega⟩ ⟨c2, hf2, by rw [ha2]; exact ha⟩
  refine ⟨_, _, ev_run hv hf ha h0 h1 e1, ev_run hv2 hf2 (by rw [ha2]; exact ha) h0 h1 e2, hout, fun z => ?_⟩
  unfold outc at z; rw [hl] at z; cases z
end Go.Proofs.YtocfnpnnbmicmaaDoor.Tc
end
section
set_option linter.unusedVariables false
set_option linter.unusedSimpArgs false
namespace Go.Proofs.YtocfnpnnbmicmaaDoor.Tc
open Go
def vf0 : VFunc := ⟨0, 0, []⟩
def badC (L : List VFunc) (v : VInstr) : Bool := (v.Instr.Op == 6) && (decide (v.Instr.N ≥ (L.length : Int)) || ((L.getD v.Instr.N.toNat vf0).Params != (v.Args.length : Int)))
def badM (v : VInstr) : Bool := ((v.Instr.Op == 34) || (v.Instr.Op == 35)) && decide (v.Instr.N ≥ 2)
def insOK (L : List VFunc) (v : VInstr) : Bool := !(badC L v) && !(badM v)
def vpB (L : List VFunc) : Bool := L.all (fun c => validB c && c.Blocks.all (fun b => b.Instrs.all (insOK L)))
theorem num_of {c : VFunc} {v : VInstr} (h : insB c v = true) : numB c v.Instr = true := by
 unfold insB at h
 obtain ⟨_, h2⟩ := ite_false h
 obtain ⟨_, h4⟩ := ite_false' h2
 exact (ite_false h4).2
theorem num_6 {c : VFunc} {v : VInstr} (h : insB c v = true) (h6 : v.Instr.Op = 6) : 0 ≤ v.Instr.N := by
 have := num_of h
 unfold numB at this; rw [h6] at this
 simp at this; omega
theorem num_m {c : VFunc} {v : VInstr} (h : insB c v = true) (h6 : v.Instr.Op = 34 ∨ v.Instr.Op = 35) : 0 ≤ v.Instr.N := by
 have := num_of h
 unfold numB at this
 rcases h6 with z | z <;> rw [z] at this <;> simp at this <;> omega
theorem num_p {c : VFunc} {v : VInstr} (h : insB c v = true) (h6 : v.Instr.Op = 38) : 0 ≤ v.Instr.N ∧ v.Instr.N < c.Params := by
 have := num_of h
 unfold numB at this; rw [h6] at this
 simp at this; omega
theorem badC_ev {L : List VFunc} {v : VInstr} (hN : v.Instr.Op = 6 → 0 ≤ v.Instr.N) : Ev (fun _ _ => cnd (v.Instr.Op == 6) (cnd (decide (v.Instr.N ≥ (L.length : Int))) (some true) (Option.bind (idx L v.Instr.N) (fun y => (some (y.Params != (v.Args.length : Int)))))) (some false)) (badC L v) := by
 unfold badC
 cases h6 : (v.Instr.Op == 6) with
 | false => exact Ev.f rfl (Ev.some _)
 | true =>
  refine Ev.t rfl ?_
  cases hn : decide (v.Instr.N ≥ (L.length : Int)) with
  | true => exact Ev.t rfl (Ev.some _)
  | false =>
   have h0 := hN (beq_iff_eq.1 h6)
   have h1 : v.Instr.N < (L.length : Int) := by have := of_decide_eq_false hn; omega
   have h2 : v.Instr.N.toNat < L.length := by omega
   have := idx_get h2
   rw [show ((v.Instr.N.toNat : Nat) : Int) = v.Instr.N by omega] at this
   refine Ev.f rfl (Ev.bindO this ((Ev.some _).cast ?_))
   rw [List.getD_eq_getElem?_getD, List.getElem?_eq_getElem h2]; rfl
theorem vp_l4 {L : List VFunc} {f t : Int} {c : VFunc} {b : Block} (hc : idx L f = some c) (hb : idx c.Blocks t = some b) (hl : b.Instrs.length ≤ 17592186044000) (hN : ∀ v, v ∈ b.Instrs → v.Instr.Op = 6 → 0 ≤ v.Instr.N) : ∀ (m p : List VInstr), b.Instrs = p ++ m →
  Ev (fun K k => ref32_ValidProgram_l4 K L [3, 2] f t k (p.length : Int)) (if m.all (insOK L) then .inl () else .inr (.inr (.inr false))) := by
 intro m
 induction m with
 | nil =>
  intro p hp
  exact Ev.step (fun K k => rfl) (Ev.bindO hc (Ev.bindO hb (Ev.f (by rw [hp]; simp) ((Ev.inn ()).cast (by simp)))))
 | cons v m ih =>
  intro p hp
  have hlt : p.length < b.Instrs.length := by rw [hp]; simp
  have hv : idx b.Instrs (p.length : Int) = some v := idx_eq (by rw [hp]; simp)
  refine Ev.step (fun K k => rfl) (Ev.bindO hc (Ev.bindO hb (Ev.t (by simp; omega) (Ev.bindO hc (Ev.bindO hb (Ev.bindO hv (Ev.bind (badC_ev (hN v (by rw [hp]; simp))) ?_)))))))
  rw [List.all_cons]
  unfold insOK badM
  cases h1 : badC L v with
  | true => exact Ev.t rfl ((Ev.out (Ev.out (Ev.out (Ev.some false)))).cast (by simp))
  | false =>
   refine Ev.f rfl ?_
   cases h2 : (((v.Instr.Op == 34) || (v.Instr.Op == 35)) && decide (v.Instr.N ≥ 2)) with
   | true => exact Ev.t rfl ((Ev.out (Ev.out (Ev.out (Ev.some false)))).cast (by simp))
   | false =>
    refine Ev.f rfl ?_
    have e : w64 ((p.length : Int) + 1) = ((p ++ [v]).length : Int) := by rw [w64_id (by omega) (by omega)]; simp
    simp only [e]
    have := ih (p ++ [v]) (by rw [hp]; simp)
    unfold insOK badM at this
    simpa using this
theorem vp_l3 {L : List VFunc} {f : Int} {c : VFunc} (hc : idx L f = some c) (hs : SmF c) (hN : ∀ b, b ∈ c.Blocks → ∀ v, v ∈ b.Instrs → v.Instr.Op = 6 → 0 ≤ v.Instr.N) : ∀ (m p : List Block), c.Blocks = p ++ m →
  Ev (fun K k => ref32_ValidProgram_l3 K L [3, 2] f k (p.length : Int)) (if m.all (fun b => b.Instrs.all (insOK L)) then .inl () else .inr (.inr false)) := by
 have hs1 : c.Blocks.length ≤ 17592186044000 := by have := hs.1; unfold Sm at this; omega
 intro m
 induction m with
 | nil =>
  intro p hp
  exact Ev.step (fun K k => rfl) (Ev.bindO hc (Ev.f (by rw [hp]; simp) ((Ev.inn ()).cast (by simp))))
 | cons b m ih =>
  intro p hp
  have hlt : p.length < c.Blocks.length := by rw [hp]; simp
  have hm : b ∈ c.Blocks := by rw [hp]; simp
  have hb : idx c.Blocks (p.length : Int) = some b := idx_eq (by rw [hp]; simp)
  have hl : b.Instrs.length ≤ 17592186044000 := by have := hs.2 b hm; unfold Sm at this; omega
  have e4 := Ev.loop (vp_l4 hc hb hl (hN b hm) b.Instrs [] rfl)
  refine Ev.step (fun K k => rfl) (Ev.bindO hc (Ev.t (by simp; omega) ?_))
  rw [List.all_cons]
  cases h1 : b.Instrs.all (insOK L) with
  | true =>
   rw [h1, if_pos rfl] at e4
   refine Ev.sql e4 ?_
   have e : w64 ((p.length : Int) + 1) = ((p ++ [b]).length : Int) := by rw [w64_id (by omega) (by omega)]; simp
   simp only [e]
   simpa using ih (p ++ [b]) (by rw [hp]; simp)
  | false =>
   rw [h1] at e4
   exact (Ev.sqr e4).cast (by simp)
theorem vp_l2 {L : List VFunc} (hs : ∀ c, c ∈ L → SmF c) (hL : L.length ≤ 8) : ∀ (m p : List VFunc), L = p ++ m →
  Ev (fun K k => ref32_ValidProgram_l2 K L [3, 2] k (p.length : Int)) (if m.all (fun c => validB c && c.Blocks.all (fun b => b.Instrs.all (insOK L))) then .inl () else .inr false) := by
 intro m
 induction m with
 | nil =>
  intro p hp
  exact Ev.step (fun K k => rfl) (Ev.f (by simp [hp]) ((Ev.inn ()).cast (by simp)))
 | cons c m ih =>
  intro p hp
  have hm : c ∈ L := by rw [hp]; simp
  have hlt : p.length < L.length := by rw [hp]; simp
  have hc : idx L (p.length : Int) = some c := idx_eq (by rw [hp]; simp)
  refine Ev.step (fun K k => rfl) (Ev.t (by simp; omega) (Ev.bindO hc (Ev.bind (ev_rvalid (hs c hm)) ?_)))
  rw [List.all_cons]
  cases h0 : validB c with
  | false => exact Ev.t rfl ((Ev.out (Ev.some false)).cast (by simp))
  | true =>
   refine Ev.f rfl ?_
   have e3 := Ev.loop (vp_l3 hc (hs c hm) (fun b hb v hv h6 => num_6 (((validB_iff.1 h0).2 b hb).1 v hv) h6) c.Blocks [] rfl)
   cases h1 : c.Blocks.all (fun b => b.Instrs.all (insOK L)) with
   | true =>
    rw [h1, if_pos rfl] at e3
    refine Ev.sql e3 ?_
    have e : w64 ((p.length : Int) + 1) = ((p ++ [c]).length : Int) := by rw [w64_id (by omega) (by omega)]; simp
    simp only [e]
    simpa using ih (p ++ [c]) (by rw [hp]; simp)
   | false =>
    rw [h1] at e3
    exact (Ev.sqr e3).cast (by simp)
theorem vp_l1 : Ev (fun K k => ref32_ValidProgram_l1 K [3, 2] k 0) (.inl ()) := ⟨5, fun K k hK hk => by
 obtain ⟨k', rfl⟩ : ∃ k', k = k' + 5 := ⟨k - 5, by omega⟩
 kernel_rfl⟩
theorem ev_vp {L : List VFunc} (hs : ∀ c, c ∈ L → SmF c) (h1 : 1 ≤ L.length) (hL : L.length ≤ 8) : Ev (fun K _ => ref32_ValidProgram K L [3, 2]) (vpB L) := by
 have e := Ev.loop (vp_l2 hs hL L [] rfl)
 unfold ref32_ValidProgram
 refine Ev.f ?_ (Ev.sql (Ev.loop vp_l1) ?_)
 ·rw [decide_eq_false (by omega), decide_eq_false (by omega)]; rfl
 ·unfold vpB
  cases h : L.all (fun c => validB c && c.Blocks.all (fun b => b.Instrs.all (insOK L))) with
  | true => rw [h, if_pos rfl] at e; exact Ev.sql e (Ev.some _)
  | false => rw [h] at e; exact Ev.sqr e
theorem mem_idx {α : Type} {l : List α} {i : Int} {x : α} (h : idx l i = some x) : x ∈ l := List.mem_of_getElem? (idx_some h).2.2
theorem pv_of {L : List VFunc} (h : vpB L = true) (hs : ∀ c, c ∈ L → ∀ b, b ∈ c.Blocks → b.Instrs.length ≤ 2199023255552) : PV L 2 := by
 unfold vpB at h
 have hA := List.all_eq_true.1 h
 have hv : ∀ c, c ∈ L → Vd c := fun c hc => ⟨(Bool.and_eq_true _ _ ▸ hA c hc : validB c = true ∧ _).1, hs c hc⟩
 refine ⟨fun f c hf => hv c (mem_idx hf), fun f c hf b hb v hvm => ?_⟩
 have hc := mem_idx hf
 have h1 : insB c v = true := ((validB_iff.1 (hv c hc).v).2 _ (bk_mem hb)).1 v hvm
 have h2 := (Bool.and_eq_true _ _ ▸ hA c hc : validB c = true ∧ _).2
 have h3 := List.all_eq_true.1 (List.all_eq_true.1 h2 _ (bk_mem hb)) v hvm
 unfold insOK at h3
 rw [Bool.and_eq_true, Bool.not_eq_true', Bool.not_eq_true'] at h3
 refine ⟨(hv c hc).i hb hvm, fun h6 => ?_, fun hm => ?_, num_p h1⟩
 ·have := h3.1
  unfold badC at this
  rw [h6] at this
  have this : (decide (v.Instr.N ≥ (L.length : Int)) || ((L.getD v.Instr.N.toNat vf0).Params != (v.Args.length : Int))) = false := this
  rw [Bool.or_eq_false_iff] at this
  have h0 := num_6 h1 h6
  refine ⟨h0, by have := of_decide_eq_false this.1; omega, fun e he => ?_⟩
  have h5 := (idx_some he).2.2
  have h7 := this.2
  rw [List.getD_eq_getElem?_getD, h5] at h7
  simpa using h7
 ·have := h3.2
  unfold badM at this
  have hb : ((v.Instr.Op == 34) || (v.Instr.Op == 35)) = true := by rcases hm with z | z <;> rw [z] <;> rfl
  rw [hb, Bool.true_and] at this
  exact ⟨num_m h1 hm, by have := of_decide_eq_false this; omega⟩
theorem endB_set (P R : Int) (bs : List Block) (k : Nat) (b' b : Block) : endB ⟨P, R, bs.set k b'⟩ b = endB ⟨P, R, bs⟩ b := by
 unfold endB blkB regB; simp only [List.length_set]
theorem headB_set (P R : Int) (bs : List Block) (k : Nat) (b' : Block) : headB ⟨P, R, bs.set k b'⟩ = headB ⟨P, R, bs⟩ := by
 unfold headB; simp only [List.length_set]
theorem ldi_ins {c : VFunc} {reg val : Int} (h0 : 0 ≤ reg) (h1 : reg < c.Regs) : insB c ⟨⟨13, reg, 0, 0, val⟩, []⟩ = true := by
 have e1 : alw 13 = true := by kernel_rfl
 have e2 : fA (fm 13) = true := by kernel_rfl
 have e3 : fBb (fm 13) = false := by kernel_rfl
 have e4 : fC (fm 13) = false := by kernel_rfl
 have e6 : fN (fm 13) = true := by kernel_rfl
 have e5 : regB c reg = true := regB_iff.2 ⟨h0, h1⟩
 unfold insB numB
 simp [e1, e2, e3, e4, e5, e6]
def ins1 (b : Block) (p : Nat) (reg val : Int) : Block := ⟨b.Instrs.take p ++ (⟨⟨13, reg, 0, 0, val⟩, []⟩ : VInstr) :: b.Instrs.drop p, b.End, b.Reg, b.Target, b.Else⟩
def insF (c : VFunc) (kb p : Nat) (reg val : Int) : VFunc := ⟨c.Params, c.Regs, c.Blocks.set kb (ins1 (bk c kb) p reg val)⟩
theorem vp_set {L : List VFunc} {F : Int} {c : VFunc} {kb p : Nat} {reg val : Int} (h : vpB L = true) (hF : idx L F = some c) (hkb : kb < c.Blocks.length) (h0 : 0 ≤ reg) (h1 : reg < c.Regs) : vpB (L.set F.toNat (insF c kb p reg val)) = true := by
 have hF2 := (idx_some hF).2.2
 have hFl : F.toNat < L.length := (List.getElem?_eq_some_iff.1 hF2).1
 have hok : ∀ v, insOK (L.set F.toNat (insF c kb p reg val)) v = insOK L v := fun v => by
  unfold insOK badC
  have : ((L.set F.toNat (insF c kb p reg val)).getD v.Instr.N.toNat vf0).Params = (L.getD v.Instr.N.toNat vf0).Params := by
   rw [List.getD_eq_getElem?_getD, List.getD_eq_getElem?_getD]
   by_cases he : F.toNat = v.Instr.N.toNat
   ·rw [← he, List.getElem?_set_self hFl, hF2]; rfl
   ·rw [List.getElem?_set_ne he]
  rw [this, List.length_set]
 unfold vpB at h ⊢
 have hA := List.all_eq_true.1 h
 refine List.all_eq_true.2 fun d hd => ?_
 have hblk : ∀ d, d ∈ L → (d.Blocks.all (fun b => b.Instrs.all (insOK (L.set F.toNat (insF c kb p reg val))))) = true := fun d hd => by
  have h2 := (Bool.and_eq_true _ _ ▸ hA d hd : validB d = true ∧ _).2
  refine List.all_eq_true.2 fun b hb => List.all_eq_true.2 fun v hv => ?_
  rw [hok]; exact List.all_eq_true.1 (List.all_eq_true.1 h2 b hb) v hv
 rcases List.mem_or_eq_of_mem_set hd with hm | rfl
 ·rw [Bool.and_eq_true]; exact ⟨(Bool.and_eq_true _ _ ▸ hA d hm : validB d = true ∧ _).1, hblk d hm⟩
 have hc := mem_idx hF
 have hv := (Bool.and_eq_true _ _ ▸ hA c hc : validB c = true ∧ _).1
 obtain ⟨v1, v2⟩ := validB_iff.1 hv
 have hins : ∀ v, v ∈ (ins1 (bk c kb) p reg val).Instrs → v ∈ (bk c kb).Instrs ∨ v = ⟨⟨13, reg, 0, 0, val⟩, []⟩ := fun v hv => by
  rcases List.mem_append.1 hv with q | q
  ·exact .inl (List.mem_of_mem_take q)
  ·rcases List.mem_cons.1 q with q | q
   ·exact .inr q
   ·exact .inl (List.mem_of_mem_drop q)
 rw [Bool.and_eq_true]
 constructor
 ·refine validB_iff.2 ⟨(headB_set _ _ _ _ _).trans v1, fun b hb => ?_⟩
  rcases List.mem_or_eq_of_mem_set hb with q | rfl
  ·exact ⟨fun v hv => (v2 b q).1 v hv, (endB_set _ _ _ _ _ _).trans (v2 b q).2⟩
  ·refine ⟨fun v hv => ?_, (endB_set _ _ _ _ _ _).trans (v2 _ (bk_mem hkb)).2⟩
   rcases hins v hv with q | rfl
   ·exact (v2 _ (bk_mem hkb)).1 v q
   ·exact ldi_ins (c := insF c kb p reg val) h0 h1
 ·refine List.all_eq_true.2 fun b hb => List.all_eq_true.2 fun v hv => ?_
  rcases List.mem_or_eq_of_mem_set hb with q | rfl
  ·exact List.all_eq_true.1 (List.all_eq_true.1 (hblk c hc) b q) v hv
  ·rcases hins v hv with q | rfl
   ·exact List.all_eq_true.1 (List.all_eq_true.1 (hblk c hc) _ (bk_mem hkb)) v q
   ·rfl
theorem c2_ins {c : VFunc} (hV : Vd c) {kb p : Nat} {reg val : Int} (hkb : kb < c.Blocks.length) (hp : p ≤ (bk c kb).Instrs.length) (hd : reg ∉ lp (bk c kb) (LO c kb) p) (h0 : 0 ≤ reg) (h1 : reg < c.Regs) : C2 c (insF c kb p reg val) := by
 refine ⟨rfl, fun b hb => ?_⟩
 have hl := hV.len hb
 by_cases he : kb = b
 ·subst he
  refine ⟨(ins1 (bk c kb) p reg val).Instrs, List.getElem?_set_self hkb, by unfold ins1; simp; omega, .inr ⟨rfl, p, reg, val, hp, rfl, by simpa using hd, h0, h1⟩⟩
 ·exact ⟨(bk c b).Instrs, (List.getElem?_set_ne he).trans (bk_get hb), by omega, .inl ⟨rfl, by omega, by omega⟩⟩
end Go.Proofs.YtocfnpnnbmicmaaDoor.Tc
end
section
set_option linter.unusedVariables false
set_option linter.unusedSimpArgs false
namespace Go.Proofs.YtocfnpnnbmicmaaDoor.Tc
open Go
theorem same6_l1 {o : Outcome} (h : o.Out.length ≤ 1000) : Ev (fun K k => ref29_SameOutcome_l1 K o o k 0) (.inl ()) := by
 have key : Ev (fun K k => ref29_SameOutcome_l1 K o o k ((0 : Nat) : Int)) (.inl ()) := by
  refine upto (P := fun i => Ev (fun K k => ref29_SameOutcome_l1 K o o k (i : Int)) (.inl ())) (n := o.Out.length) ?_ fun i hi ih => ?_
  ·exact Ev.step (fun K k => rfl) (Ev.f (by simp) (Ev.inn ()))
  ·refine Ev.step (fun K k => rfl) (Ev.t (by simp; omega) (Ev.bindO (idx_get hi) (Ev.bindO (idx_get hi) (Ev.f (by simp) ?_))))
   simp only [w64_succ (i := i) (by omega)]
   exact ih
 simpa using key
theorem same6 {o : Outcome} (h : o.Out.length ≤ 1000) : Ev (fun K _ => ref29_SameOutcome K o o) true := by
 unfold ref29_SameOutcome
 exact Ev.f (by simp) (Ev.sql (Ev.loop (same6_l1 h)) (Ev.some _))
theorem run_any {L : List VFunc} (hs : ∀ c, c ∈ L → SmF c) (hs2 : ∀ c, c ∈ L → ∀ b, b ∈ c.Blocks → b.Instrs.length ≤ 2199023255552) (hl1 : 1 ≤ L.length) (hl2 : L.length ≤ 8) {f fuel : Int} {args : List Int} {c : VFunc} (hf : idx L f = some c) (ha : (args.length : Int) = c.Params) (h0 : 0 ≤ fuel) (h1 : fuel ≤ 1000) : ∃ y, Ev (fun K _ => ref32_Run K L [3, 2] f args fuel 300) y := by
 have e := ev_vp hs hl1 hl2
 cases h : vpB L with
 | false => rw [h] at e; exact ⟨_, ev_run0 e⟩
 | true =>
  rw [h] at e
  have hp := pv_of h hs2
  obtain ⟨w, y', e2, _, _, _⟩ := callS_all (q := L) hp (fun f c hc => ⟨c, hc, C2.refl (hp.v f c hc)⟩) 300 0 (x0 L fuel 300) f args (by show (300 : Int) ≤ _; omega) ⟨rfl, rfl, ⟨h0, h1⟩, ⟨by show (0 : Int) ≤ 300; omega, by show (300 : Int) ≤ 1000; omega⟩, by show ((0 : Nat) : Int) + 300 ≤ 1000; omega⟩ ⟨c, hf, ha⟩
  exact ⟨_, ev_run e hf ha h0 h1 e2⟩
theorem small6 {p : Int} {c : VFunc} (h : VF p c) : c.Blocks.length ≤ 7 ∧ ∀ b, b ∈ c.Blocks → b.Instrs.length ≤ 11 := ⟨h.len.2, fun b hb => by
 obtain ⟨k, hk, rfl⟩ := mem_bk hb
 exact h.ilen hk⟩
theorem lpsLen (c : VFunc) (k : Nat) : (LPs c k).length = (bk c k).Instrs.length + 1 := by simp [LPs, lps]
theorem lpsGet {c : VFunc} {k i : Nat} (hi : i ≤ (bk c k).Instrs.length) : (LPs c k)[i]? = some (lp (bk c k) (LO c k) i) := by
 unfold LPs lps; rw [List.getElem?_map, List.getElem?_range (by omega)]; rfl
theorem end6 {y z : Outcome × Bool} (hl : y.1.Out.length ≤ 1000) (h : y.2 = true → z = y) :
  Ev (fun K _ => (Option.bind (cnd (!y.2) (some true) (Option.bind (cnd z.2 (Option.bind (ref29_SameOutcome K y.1 z.1) (fun r82 => (some r82))) (some false)) (fun z79 => (some z79)))) (fun z75 => (Option.bind (cnd z75 (Option.bind (law33_LivenessExamples K) (fun r88 => (some r88))) (some false)) (fun z85 => (some z85)))))) true := by
 refine Ev.bind (x := true) ?_ (Ev.bind (x := true) (Ev.t rfl (Ev.bind ev_ex3 (Ev.some _))) (Ev.some _))
 cases hy : y.2 with
 | false => exact Ev.t rfl (Ev.some _)
 | true =>
  have hz := h hy
  rw [hz]
  exact Ev.f rfl (Ev.bind (x := true) (Ev.t hy (Ev.bind (same6 hl) (Ev.some _))) (Ev.some _))
theorem dead6 {L : List VFunc} {F : Int} {c c0 c1 : VFunc} {p : Int} (hL : L = [c0, c1]) (v0 : VF 2 c0) (v1 : VF 1 c1) (hF : idx L F = some c) (hc : VF p c) (hp1 : 1 ≤ p) {kb pt : Nat} {reg val fu : Int} {args : List Int} (hkb : kb < c.Blocks.length) (hpt : pt ≤ (bk c kb).Instrs.length) (h0 : 0 ≤ reg) (h1 : reg < c.Regs)
  (hd : reg ∉ lp (bk c kb) (LO c kb) pt) (ha : (args.length : Int) = c.Params) (f0 : 0 ≤ fu) (f1 : fu ≤ 1000) :
  ∃ y z, Ev (fun K _ => ref32_Run K L [3, 2] F args fu 100) y ∧ Ev (fun K _ => ref32_Run K (L.set F.toNat (insF c kb pt reg val)) [3, 2] F args fu 300) z ∧ y.1.Out.length ≤ 1000 ∧ (y.2 = true → z = y) := by
 have sm : ∀ d, d ∈ L → d.Blocks.length ≤ 7 ∧ ∀ b, b ∈ d.Blocks → b.Instrs.length ≤ 11 := fun d hd => by
  rw [hL] at hd
  rcases List.mem_cons.1 hd with rfl | hd
  ·exact small6 v0
  ·rw [List.mem_singleton.1 hd]; exact small6 v1
 have smi : ∀ d, d ∈ L.set F.toNat (insF c kb pt reg val) → d.Blocks.length ≤ 7 ∧ ∀ b, b ∈ d.Blocks → b.Instrs.length ≤ 12 := fun d hd => by
  rcases List.mem_or_eq_of_mem_set hd with q | rfl
  ·exact ⟨(sm d q).1, fun b hb => by have := (sm d q).2 b hb; omega⟩
  ·have hs := small6 hc
   refine ⟨by unfold insF; simp; exact hs.1, fun b hb => ?_⟩
   rcases List.mem_or_eq_of_mem_set hb with q | rfl
   ·have := hs.2 b q; omega
   ·have := hs.2 _ (bk_mem hkb)
    unfold ins1; simp; omega
 have hlen : L.length = 2 := by rw [hL]; rfl
 have hsF : ∀ d, d ∈ L → SmF d := fun d hd => ⟨by have := (sm d hd).1; unfold Sm; omega, fun b hb => by have := (sm d hd).2 b hb; unfold Sm; omega⟩
 have hsF2 : ∀ d, d ∈ L.set F.toNat (insF c kb pt reg val) → SmF d := fun d hd => ⟨by have := (smi d hd).1; unfold Sm; omega, fun b hb => by have := (smi d hd).2 b hb; unfold Sm; omega⟩
 have hFl : F.toNat < L.length := (List.getElem?_eq_some_iff.1 (idx_some hF).2.2).1
 have hq2 : idx (L.set F.toNat (insF c kb pt reg val)) F = some (insF c kb pt reg val) := idx_setS hF
 have e1 := ev_vp hsF (by omega) (by omega)
 have hl2 : (L.set F.toNat (insF c kb pt reg val)).length = 2 := by rw [List.length_set]; exact hlen
 cases h : vpB L with
 | false =>
  rw [h] at e1
  obtain ⟨z, ez⟩ := run_any hsF2 (fun d hd b hb => by have := (smi d hd).2 b hb; omega) (by omega) (by omega) hq2 (show (args.length : Int) = (insF c kb pt reg val).Params from ha) f0 f1
  exact ⟨_, z, ev_run0 e1, ez, by simp, fun z => by cases z⟩
 | true =>
  rw [h] at e1
  have hv2 := vp_set (val := val) (p := pt) h hF hkb h0 h1
  have e2 := ev_vp hsF2 (by omega) (by omega)
  rw [hv2] at e2
  have hp := pv_of h fun d hd b hb => by have := (sm d hd).2 b hb; omega
  have hp2 := pv_of hv2 fun d hd b hb => by have := (smi d hd).2 b hb; omega
  refine run_both hp hp2 (fun f d hf => ?_) e1 e2 hF ha hq2 rfl f0 f1
  by_cases he : f = F
  ·subst he
   rw [hF] at hf; cases hf
   exact ⟨_, hq2, c2_ins hc.vd hkb hpt hd h0 h1⟩
  ·refine ⟨d, ?_, C2.refl (hp.v f d hf)⟩
   have q0 := (idx_some hf).1
   have q1 := (idx_some hF).1
   unfold idx at hf ⊢
   rw [if_pos q0] at hf ⊢
   rw [List.getElem?_set_ne (by omega)]
   exact hf
theorem vfuncs6 (a0 a1 : List Int) : ∃ c0 c1, Ev (fun K _ => keep2_VFuncs K a0 a1) ([c0, c1], [3, 2]) ∧ VF 2 c0 ∧ VF 1 c1 := by
 obtain ⟨c0, e0, v0⟩ := ev_vfunc (l := a0.take 36) (p := 2) (by simp; omega) (by omega) (by omega)
 obtain ⟨c1, e1, v1⟩ := ev_vfunc (l := a1.take 18) (p := 1) (by simp; omega) (by omega) (by omega)
 refine ⟨c0, c1, ?_, v0, v1⟩
 unfold keep2_VFuncs
 exact Ev.bindO (take36 a0 36) (Ev.bind e0 (Ev.bindO (take36 a1 18) (Ev.bind e1 (Ev.some _))))
theorem pure6 (a0 a1 : List Int) (a2 a3 a4 a5 a6 a7 a8 a9 a10 : Int) (_ : lenOk 8 a0 ∧ ∀ x, x ∈ a0 → I64 x) (_ : lenOk 8 a1 ∧ ∀ x, x ∈ a1 → I64 x) (_ : I64 a2) (_ : I64 a3) (_ : I64 a4) (_ : I64 a5) (_ : I64 a6) (_ : I64 a7) (_ : I64 a8) (_ : I64 a9) (_ : I64 a10) :
  ∃ K, law33_LivenessDead K a0 a1 a2 a3 a4 a5 a6 a7 a8 a9 a10 = some true := by
 refine Ev.fst ?_
 obtain ⟨c0, c1, eL, v0, v1⟩ := vfuncs6 a0 a1
 obtain ⟨F, eF, F0, F1⟩ := pick_ok a2 (m := 2) (by omega) (by omega)
 obtain ⟨c, p, hF, hc, hp1⟩ : ∃ c p, idx [c0, c1] F = some c ∧ VF p c ∧ 1 ≤ p := by
  have : F = 0 ∨ F = 1 := by omega
  rcases this with rfl | rfl
  ·exact ⟨c0, 2, rfl, v0, by omega⟩
  ·exact ⟨c1, 1, rfl, v1, by omega⟩
 have hV := hc.vd
 have hbl := hc.len
 obtain ⟨kbI, eK, K0, K1⟩ := pick_ok a3 (m := (c.Blocks.length : Int)) (by omega) (by omega)
 obtain ⟨kb, rfl⟩ : ∃ kb : Nat, kbI = (kb : Int) := ⟨kbI.toNat, by omega⟩
 have hkb : kb < c.Blocks.length := by omega
 have hil := hc.ilen hkb
 have ew : w64 (((bk c kb).Instrs.length : Int) + 1) = (((bk c kb).Instrs.length + 1 : Nat) : Int) := w64_succ (by omega)
 obtain ⟨ptI, eP, P0, P1⟩ := pick_ok a4 (m := (((bk c kb).Instrs.length + 1 : Nat) : Int)) (by omega) (by omega)
 obtain ⟨pt, rfl⟩ : ∃ pt : Nat, ptI = (pt : Int) := ⟨ptI.toNat, by omega⟩
 have hpt : pt ≤ (bk c kb).Instrs.length := by omega
 have hrg : c.Regs = 9 + p := hc.hr
 have hpp := hc.p2
 obtain ⟨reg, eR, R0, R1⟩ := pick_ok a5 (m := c.Regs) (by omega) (by omega)
 obtain ⟨w1, hw1⟩ := word_ok a7 a9
 obtain ⟨w2, hw2⟩ := word_ok a8 a9
 obtain ⟨fu, hfu, f0, f1⟩ := pick_ok a10 (m := 12) (by omega) (by omega)
 have eA : keep_Args a7 a8 a9 = some [w1, w2] := by unfold keep_Args; rw [hw1, Option.bind_some, hw2]; rfl
 have eFu : keep_Fuel a10 = some fu := by unfold keep_Fuel; rw [hfu]; rfl
 have hpn : ∃ n : Nat, c.Params = (n : Int) ∧ n ≤ 2 := ⟨p.toNat, by rw [hc.hp]; omega, by omega⟩
 obtain ⟨n, hn, hn2⟩ := hpn
 unfold law33_LivenessDead
 refine Ev.bind eL (Ev.bindO eF (Ev.bindO hF (Ev.bindO eK (Ev.bindO hF (Ev.bindO (bk_idx hkb) ?_)))))
 simp only [ew]
 refine Ev.bindO eP (Ev.bindO hF (Ev.bindO eR (Ev.bindO hF (Ev.bind (ev_ppoints hV hkb) (Ev.f (by rw [lpsLen]; simp) (Ev.bindO (idx_eq (lpsGet hpt)) (Ev.bind (ev_contains' hV (RS.lp (hV.iv hkb) (hV.e hkb) (RS.LO hV kb) pt)) ?_)))))))
 cases hct : (lp (bk c kb) (LO c kb) pt).contains reg with
 | true => exact Ev.t rfl (Ev.bind ev_ex3 (Ev.some _))
 | false =>
  have hd : reg ∉ lp (bk c kb) (LO c kb) pt := by simpa using hct
  have ha : ((([w1, w2] : List Int).take n).length : Int) = c.Params := by rw [hn, List.length_take]; simp; omega
  obtain ⟨y, z, e1, e2, hl, hz⟩ := dead6 (val := a6) (args := ([w1, w2] : List Int).take n) rfl v0 v1 hF hc hp1 hkb hpt R0 R1 hd ha f0 (by omega : fu ≤ 1000)
  have g1 : app 40 ([] : List VFunc) [c0, c1] = some [c0, c1] := app_eq (by simp) (by simp)
  have g2 : app 56 ([] : List Block) c.Blocks = some c.Blocks := app_eq (by simp; omega) (by simp; omega)
  have g3 : app 64 ([] : List VInstr) ((bk c kb).Instrs.take pt) = some ((bk c kb).Instrs.take pt) := app_eq (by simp; omega) (by simp; omega)
  have g4 : app 64 ((bk c kb).Instrs.take pt) ([(⟨(⟨13, reg, 0, 0, a6⟩ : Instr), []⟩ : VInstr)] : List VInstr) = some ((bk c kb).Instrs.take pt ++ [⟨⟨13, reg, 0, 0, a6⟩, []⟩]) := app_eq (by simp; omega) (by simp; omega)
  have g5 : app 64 ((bk c kb).Instrs.take pt ++ [⟨⟨13, reg, 0, 0, a6⟩, []⟩]) ((bk c kb).Instrs.drop pt) = some ((bk c kb).Instrs.take pt ++ ⟨⟨13, reg, 0, 0, a6⟩, []⟩ :: (bk c kb).Instrs.drop pt) := by
   rw [app_eq (by simp; omega) (by simp; omega)]; simp
  have hP : subHi ([w1, w2] : List Int) c.Params = some (([w1, w2] : List Int).take n) := by rw [hn]; exact subHi_eq (by simpa using hn2)
  refine Ev.f rfl (Ev.bindO g1 (Ev.bindO hF (Ev.bindO g2 (Ev.bindO hF (Ev.bindO (subHi_eq hpt) (Ev.bindO g3 (Ev.bindO g4 (Ev.bindO (subLo_eq hpt) (Ev.bindO g5 (Ev.bindO (bk_idx hkb) (Ev.bindO eA (Ev.bindO hF (Ev.bindO hP (Ev.bindO eFu (Ev.bind e1 (Ev.bindO eFu (Ev.bind e2 (end6 hl hz))))))))))))))))))
end Go.Proofs.YtocfnpnnbmicmaaDoor.Tc
end
