/- RegAllocSymmetric: the pure function answers true. -/
import Derived.Test.YtocfnpnnbmicmaaDoorP11Re
import Derived.Test.YtocfnpnnbmicmaaDoorPERe
import Derived.Test.YtocfnpnnbmicmaaDoorArgsRe
set_option linter.unusedVariables false
set_option linter.unusedSimpArgs false
namespace Go.Proofs.YtocfnpnnbmicmaaDoor.Tc
open Go

theorem srt_get {l : List Int} (h : Srt l) {i j : Nat} (hij : i < j) (hj : j < l.length) : l[i]'(by omega) < l[j] := (List.pairwise_iff_getElem.1 h) i j (by omega) hj hij
theorem sym_l2 {c : VFunc} (h : Vd c) {r : Nat} (hr : r < c.Regs.toNat) : Ev (fun K n => law34_RegAllocSymmetric_l2 K (IFs c) (r : Int) n 0) (.inl ()) := by
  have h0 := h.h.r0
  have h1 := h.h.r1
  have g := gr_IF h
  have hlen := (g.s r).len h
  have hx : idx (IFs c) (r : Int) = some (IF c r) := idx_eq (IFs_get hr)
  have key : Ev (fun K n => law34_RegAllocSymmetric_l2 K (IFs c) (r : Int) n ((0 : Nat) : Int)) (.inl ()) := by
    refine upto (P := fun i => Ev (fun K n => law34_RegAllocSymmetric_l2 K (IFs c) (r : Int) n (i : Int)) (.inl ())) (n := (IF c r).length) ?_ fun i hi ih => ?_
    · exact Ev.step (fun K k => rfl) (Ev.bindO hx (Ev.f (by simp) (Ev.inn ())))
    · have hg := idx_get hi
      have hmem : (IF c r)[i] ∈ IF c r := List.getElem_mem hi
      have hreg := (g.s r).r _ hmem
      have hne : (IF c r)[i] ≠ (r : Int) := fun e => g.i r (by rw [← e]; exact hmem)
      have hsym : (r : Int) ∈ IF c (IF c r)[i].toNat := g.y _ _ (by rw [show (((IF c r)[i].toNat : Nat) : Int) = (IF c r)[i] by omega]; exact hmem)
      have hrow : idx (IFs c) (IF c r)[i] = some (IF c (IF c r)[i].toNat) := by
        have := idx_eq (IFs_get (c := c) (k := (IF c r)[i].toNat) (by omega))
        rwa [show (((IF c r)[i].toNat : Nat) : Int) = (IF c r)[i] by omega] at this
      have hlen2 := (g.s (IF c r)[i].toNat).len h
      refine Ev.step (fun K k => rfl) (Ev.bindO hx (Ev.t (by simp; omega) (Ev.bindO hx (Ev.bindO hg (Ev.bind (x := false) (Ev.f ?_ (Ev.bindO hrow (Ev.bind (ev_contains' h (g.s _)) ((Ev.some _).cast ?_)))) (Ev.bind (x := false) (Ev.f rfl (Ev.bind (x := false) ?_ (Ev.some _))) (Ev.f rfl ?_)))))))
      · rw [IFs_len]
        simp only [Bool.or_eq_false_iff, beq_eq_false_iff_ne, decide_eq_false_iff_not]
        exact ⟨⟨hne, by omega⟩, by omega⟩
      · have : (IF c (IF c r)[i].toNat).contains (r : Int) = true := by simpa using hsym
        rw [this]; rfl
      · refine Ev.cnd (fun hc => ?_) (fun hc => Ev.some _)
        have hi0 : 0 < i := by have := of_decide_eq_true hc; omega
        have hw : w64 ((i : Int) - 1) = ((i - 1 : Nat) : Int) := by rw [w64_id (by omega) (by omega)]; omega
        have hlt := srt_get (g.s r).s (show i - 1 < i by omega) hi
        rw [hw]
        refine Ev.bindO hx (Ev.bindO (idx_get (show i - 1 < (IF c r).length by omega)) ((Ev.some _).cast ?_))
        rw [decide_eq_false_iff_not]; omega
      · rw [w64_succ (by omega)]; exact ih
  simpa using key
theorem sym_l1 {c : VFunc} (h : Vd c) : Ev (fun K n => law34_RegAllocSymmetric_l1 K (IFs c) n 0) (.inl ()) := by
  have h1 := h.h.r1
  have key : Ev (fun K n => law34_RegAllocSymmetric_l1 K (IFs c) n ((0 : Nat) : Int)) (.inl ()) := by
    refine upto (P := fun i => Ev (fun K n => law34_RegAllocSymmetric_l1 K (IFs c) n (i : Int)) (.inl ())) (n := c.Regs.toNat) ?_ fun i hi ih => ?_
    · exact Ev.step (fun K k => rfl) (Ev.f (by simp [IFs_len]) (Ev.inn ()))
    · refine Ev.step (fun K k => rfl) (Ev.t (by simp [IFs_len]; omega) (Ev.sql (Ev.loop (sym_l2 h hi)) ?_))
      rw [w64_succ (by omega)]; exact ih
  simpa using key
theorem pure14 (l : List Int) (a : Int) (_ : lenOk 8 l ∧ ∀ x, x ∈ l → I64 x) (_ : I64 a) : ∃ K, law34_RegAllocSymmetric K l a = some true := by
  refine Ev.fst ?_
  unfold law34_RegAllocSymmetric
  refine ev_head fun p c hc => ?_
  have h := hc.vd
  have h0 := h.h.r0
  refine Ev.bind (ev_pint h) (Ev.f ?_ (Ev.sql (Ev.loop (sym_l1 h)) (Ev.bind ev_ex11 (Ev.some _))))
  rw [IFs_len]; simp; omega
end Go.Proofs.YtocfnpnnbmicmaaDoor.Tc
