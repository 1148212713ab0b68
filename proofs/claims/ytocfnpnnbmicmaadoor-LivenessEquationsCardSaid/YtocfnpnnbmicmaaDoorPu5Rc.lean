/- LivenessEquations: the pure function answers true. -/
import Derived.Test.YtocfnpnnbmicmaaDoorP9Rc
import Derived.Test.YtocfnpnnbmicmaaDoorArgsRc
set_option linter.unusedVariables false
set_option linter.unusedSimpArgs false
namespace Go.Proofs.YtocfnpnnbmicmaaDoor.Tc
open Go

theorem eq_l2 {c : VFunc} (h : Vd c) {r : List Int} (hr : ∀ t, t ∈ r → 0 ≤ t ∧ t < (c.Blocks.length : Int)) (hr2 : r.length ≤ 2) : ∀ (q p : List Int) (a : List Int), r = p ++ q → RS c a → Ev (fun K k => law33_LivenessEquations_l2 K (LIs c, LOs c) r k (a, (p.length : Int))) (q.foldl (fun a t => uni a (LI c t.toNat)) a) := by
  intro q
  induction q with
  | nil =>
    intro p a he _
    refine Ev.step (fun K k => rfl) (Ev.f ?_ (Ev.some _))
    subst he; simp
  | cons t q ih =>
    intro p a he ha
    have hlt : (p.length : Int) < (r.length : Int) := by subst he; simp; omega
    have hg : idx r (p.length : Int) = some t := idx_eq (by subst he; simp)
    have hw : w64 ((p.length : Int) + 1) = ((p ++ [t]).length : Int) := by
      rw [w64_id (by omega) (by omega)]; simp
    have ht := hr t (by subst he; simp)
    have hgt : idx (LIs c) t = some (LI c t.toNat) := by
      have := idx_eq (LIs_get (c := c) (k := t.toNat) (by omega))
      rwa [show ((t.toNat : Nat) : Int) = t by omega] at this
    have l1 := ha.len h
    have l2 := (RS.LI h t.toNat).len h
    refine Ev.step (fun K k => rfl) (Ev.t (by simpa using hlt) (Ev.bindO hg (Ev.bindO hgt (Ev.bind (ev_union (a := a) (b := LI c t.toNat) (by unfold Sm; omega) (by unfold Sm; omega) (by omega)) ?_))))
    simp only [hw]
    exact ih (p ++ [t]) _ (by subst he; simp) (ha.uni (RS.LI h t.toNat).r)
theorem LPs_get {c : VFunc} {k i : Nat} (hi : i ≤ (bk c k).Instrs.length) : (LPs c k)[i]? = some (lp (bk c k) (LO c k) i) := by
  unfold LPs lps; rw [List.getElem?_map, List.getElem?_range (by omega)]; rfl
theorem LPs_len (c : VFunc) (k : Nat) : (LPs c k).length = (bk c k).Instrs.length + 1 := by simp [LPs, lps]
theorem rs_LP {c : VFunc} (h : Vd c) {k : Nat} (hk : k < c.Blocks.length) (i : Nat) : RS c (lp (bk c k) (LO c k) i) := RS.lp (h.iv hk) (h.e hk) (RS.LO h k) i
theorem eq_l3 {c : VFunc} (h : Vd c) {k : Nat} (hk : k < c.Blocks.length) : Ev (fun K n => law33_LivenessEquations_l3 K c (k : Int) (LPs c k) (bk c k) n 0) (.inl ()) := by
  have hlen := h.len hk
  have key : Ev (fun K n => law33_LivenessEquations_l3 K c (k : Int) (LPs c k) (bk c k) n ((0 : Nat) : Int)) (.inl ()) := by
    refine upto (P := fun i => Ev (fun K n => law33_LivenessEquations_l3 K c (k : Int) (LPs c k) (bk c k) n (i : Int)) (.inl ())) (n := (bk c k).Instrs.length) ?_ fun i hi ih => ?_
    · exact Ev.step (fun K k => rfl) (Ev.f (by simp) (Ev.inn ()))
    · have hgv : (bk c k).Instrs[i]? = some (bk c k).Instrs[i] := List.getElem?_eq_getElem hi
      have hv := h.i hk (List.getElem_mem hi)
      have r1 := (rs_LP h hk (i + 1)).len h
      have r2 := ((rs_LP h hk (i + 1)).mns (wr (bk c k).Instrs[i])).len h
      have hwl : (wr (bk c k).Instrs[i]).length ≤ 1 := by unfold wr; split <;> simp
      have hrl : (rd (bk c k).Instrs[i]).length ≤ 3000 := RS.len h ⟨srt_rd _, hv.r⟩
      have r0 := (rs_LP h hk i).len h
      refine Ev.step (fun K k => rfl) (Ev.t (by simp; omega) ?_)
      simp only [w64_succ (i := i) (by omega)]
      refine Ev.bindO (bk_idx hk) (Ev.bindO (idx_eq hgv) (Ev.bindO (idx_eq (LPs_get (by omega))) (Ev.bindO (idx_eq (LPs_get (by omega))) (Ev.bindO (rwrites _) (Ev.bind (ev_minus (by unfold Sm; omega) (by unfold Sm; omega)) (Ev.bind (ev_rreads (by have := hv.n; omega)) (Ev.bind (ev_union (by unfold Sm; omega) (by unfold Sm; omega) (by omega)) (Ev.bind (ev_same (by unfold Sm; omega)) (Ev.f ?_ ih)))))))))
      have e : uni (mns (lp (bk c k) (LO c k) (i + 1)) (wr (bk c k).Instrs[i])) (rd (bk c k).Instrs[i]) = lp (bk c k) (LO c k) i := (lp_step hgv).symm
      rw [e]; simp
  simpa using key
theorem eq_l1 {c : VFunc} (h : Vd c) : Ev (fun K n => law33_LivenessEquations_l1 K c (LIs c, LOs c) n 0) (.inl ()) := by
  have hb := h.h.b1
  have key : Ev (fun K n => law33_LivenessEquations_l1 K c (LIs c, LOs c) n ((0 : Nat) : Int)) (.inl ()) := by
    refine upto (P := fun i => Ev (fun K n => law33_LivenessEquations_l1 K c (LIs c, LOs c) n (i : Int)) (.inl ())) (n := c.Blocks.length) ?_ fun i hi ih => ?_
    · exact Ev.step (fun K k => rfl) (Ev.f (by simp) (Ev.inn ()))
    · have hlen := h.len hi
      have hO := (RS.LO h i).len h
      have hI := (RS.LI h i).len h
      have hL := (rs_LP h hi (bk c i).Instrs.length).len h
      have hL0 := (rs_LP h hi 0).len h
      have e1 : Ev (fun K _ => law33_LivenessEquations_l2 K (LIs c, LOs c) (su (bk c i)) K ([], 0)) (LO c i) := Ev.loop (eq_l2 h (h.e hi).s (su_len _) (su (bk c i)) [] [] rfl (RS.nil c))
      have hel : (er (bk c i)).length ≤ 1 := by unfold er; split <;> simp
      refine Ev.step (fun K k => rfl) (Ev.t (by simp; omega) ?_)
      simp only [w64_succ (i := i) (by omega)]
      refine Ev.bindO (bk_idx hi) (Ev.bind (ev_rsucc _) (Ev.bind e1 (Ev.bind (ev_ppoints h hi) (Ev.bindO (bk_idx hi) (Ev.bind (x := false) ?_ (Ev.f rfl (Ev.bind (x := uni (LO c i) (er (bk c i))) ?_ (Ev.bindO (idx_eq (LPs_get (Nat.le_refl _))) (Ev.bind (ev_same (by unfold Sm; omega)) (Ev.f ?_ (Ev.sql (Ev.loop (eq_l3 h hi)) ih)))))))))))
      · refine Ev.bindO (idx_eq (LOs_get hi)) (Ev.bind (ev_same (by unfold Sm; omega)) (Ev.f (by simp) (Ev.f ?_ (Ev.bindO (idx_eq (i := 0) (LPs_get (Nat.zero_le _))) (Ev.bindO (idx_eq (LIs_get hi)) (Ev.bind (ev_same (by unfold Sm; omega)) ((Ev.some _).cast ?_)))))))
        · rw [w64_succ (by omega), LPs_len]; simp
        · rw [lp_zero, ← LI_eq h hi]; simp
      · refine Ev.bindO (bk_idx hi) ?_
        have ee : er (bk c i) = if ((bk c i).End == 2) || ((bk c i).End == 3) then [(bk c i).Reg] else [] := rfl
        cases he : (((bk c i).End == 2) || ((bk c i).End == 3)) with
        | true =>
          rw [he] at ee
          have ee : er (bk c i) = [(bk c i).Reg] := ee
          rw [ee]
          exact Ev.t rfl (Ev.bind (ev_union (by unfold Sm; omega) (by simp [Sm]) (by simp; omega)) (Ev.some _))
        | false =>
          rw [he] at ee
          have ee : er (bk c i) = [] := ee
          rw [ee]
          exact Ev.f rfl (Ev.some _)
      · rw [lp_last]; simp
  simpa using key
theorem pure5 (l : List Int) (a : Int) (_ : lenOk 8 l ∧ ∀ x, x ∈ l → I64 x) (_ : I64 a) : ∃ K, law33_LivenessEquations K l a = some true := by
  refine Ev.fst ?_
  unfold law33_LivenessEquations
  refine ev_head fun p c hc => ?_
  have h := hc.vd
  refine Ev.bind (ev_pblocks h) (Ev.f ?_ (Ev.sql (Ev.loop (eq_l1 h)) (Ev.bind ev_ex3 (Ev.some _))))
  rw [Bool.or_eq_false_iff]
  exact ⟨by simp [LIs_len], by simp [LOs_len]⟩
end Go.Proofs.YtocfnpnnbmicmaaDoor.Tc
