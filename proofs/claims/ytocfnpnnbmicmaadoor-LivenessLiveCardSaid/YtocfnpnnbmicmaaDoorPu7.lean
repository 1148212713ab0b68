/- LivenessLive: the pure function answers true. -/
import Derived.Test.YtocfnpnnbmicmaaDoorP9
import Derived.Test.YtocfnpnnbmicmaaDoorArgs
set_option linter.unusedVariables false
set_option linter.unusedSimpArgs false
namespace Go.Proofs.YtocfnpnnbmicmaaDoor.Tc
open Go

/-- Some instruction or terminator of b reads r. -/
def rdB (r : Int) (b : Block) : Bool := (((b.End == 2) || (b.End == 3)) && (b.Reg == r)) || b.Instrs.any (fun v => (rd v).contains r)
theorem live_l2 {c : VFunc} (h : Vd c) {k : Nat} (hk : k < c.Blocks.length) (r : Int) (s : Bool) : Ev (fun K n => law33_LivenessLive_l2 K r (bk c k) n (s, 0)) (s || (bk c k).Instrs.any (fun v => (rd v).contains r)) := by
  have hlen := h.len hk
  have key : ∀ s, Ev (fun K n => law33_LivenessLive_l2 K r (bk c k) n (s, ((0 : Nat) : Int))) (s || ((bk c k).Instrs.drop 0).any (fun v => (rd v).contains r)) := by
    refine upto (P := fun i => ∀ s, Ev (fun K n => law33_LivenessLive_l2 K r (bk c k) n (s, (i : Int))) (s || ((bk c k).Instrs.drop i).any (fun v => (rd v).contains r))) (n := (bk c k).Instrs.length) (fun s => ?_) fun i hi ih s => ?_
    · refine Ev.step (fun K k => rfl) (Ev.f (by simp) ((Ev.some _).cast ?_))
      rw [List.drop_length]; simp
    · have hv := h.i hk (List.getElem_mem hi)
      refine Ev.step (fun K k => rfl) (Ev.t (by simp; omega) (Ev.bind (x := s || (rd (bk c k).Instrs[i]).contains r) ?_ ?_))
      · cases s with
        | true => exact Ev.t rfl (Ev.some _)
        | false => exact Ev.f rfl (Ev.bindO (idx_get hi) (Ev.bind (ev_rreads (by have := hv.n; omega)) (Ev.bind (ev_contains' h ⟨srt_rd _, hv.r⟩) ((Ev.some _).cast (by simp)))))
      · simp only [w64_succ (i := i) (by omega)]
        refine (ih _).cast ?_
        rw [drop_get hi, List.any_cons, Bool.or_assoc]
  simpa using key s
theorem live_l1 {c : VFunc} (h : Vd c) (r : Int) : Ev (fun K n => law33_LivenessLive_l1 K c r n (false, 0)) (c.Blocks.any (rdB r)) := by
  have hb := h.h.b1
  have key : ∀ s, Ev (fun K n => law33_LivenessLive_l1 K c r n (s, ((0 : Nat) : Int))) (s || (c.Blocks.drop 0).any (rdB r)) := by
    refine upto (P := fun i => ∀ s, Ev (fun K n => law33_LivenessLive_l1 K c r n (s, (i : Int))) (s || (c.Blocks.drop i).any (rdB r))) (n := c.Blocks.length) (fun s => ?_) fun i hi ih s => ?_
    · refine Ev.step (fun K k => rfl) (Ev.f (by simp) ((Ev.some _).cast ?_))
      rw [List.drop_length]; simp
    · refine Ev.step (fun K k => rfl) (Ev.t (by simp; omega) (Ev.bindO (bk_idx hi) (Ev.bind (Ev.loop (live_l2 h hi r _)) ?_)))
      simp only [w64_succ (i := i) (by omega)]
      refine (ih _).cast ?_
      have e : c.Blocks[i] = bk c i := by
        have := bk_get hi
        rw [List.getElem?_eq_getElem hi] at this; exact Option.some.inj this
      rw [drop_get hi, List.any_cons, e, rdB]
      simp only [Bool.or_assoc]
  simpa using key false
theorem live_l3 {c : VFunc} (h : Vd c) (r : Int) : Ev (fun K n => law33_LivenessLive_l3 K r (LIs c, LOs c) n (false, 0)) ((List.range c.Blocks.length).any (fun k => (LI c k).contains r || (LO c k).contains r)) := by
  have hb := h.h.b1
  have key : ∀ s, Ev (fun K n => law33_LivenessLive_l3 K r (LIs c, LOs c) n (s, ((0 : Nat) : Int))) (s || ((List.range c.Blocks.length).drop 0).any (fun k => (LI c k).contains r || (LO c k).contains r)) := by
    refine upto (P := fun i => ∀ s, Ev (fun K n => law33_LivenessLive_l3 K r (LIs c, LOs c) n (s, (i : Int))) (s || ((List.range c.Blocks.length).drop i).any (fun k => (LI c k).contains r || (LO c k).contains r))) (n := c.Blocks.length) (fun s => ?_) fun i hi ih s => ?_
    · refine Ev.step (fun K k => rfl) (Ev.f (by simp [LIs_len]) ((Ev.some _).cast ?_))
      rw [List.drop_eq_nil_of_le (by simp)]; simp
    · refine Ev.step (fun K k => rfl) (Ev.t (by simp [LIs_len, LOs_len]; omega) (Ev.bind (x := s || (LI c i).contains r) ?_ (Ev.bind (x := (s || (LI c i).contains r) || (LO c i).contains r) ?_ ?_)))
      · cases s with
        | true => exact Ev.t rfl (Ev.some _)
        | false => exact Ev.f rfl (Ev.bindO (idx_eq (LIs_get hi)) (Ev.bind (ev_contains' h (RS.LI h i)) ((Ev.some _).cast (by simp))))
      · generalize (s || (LI c i).contains r) = s2
        cases s2 with
        | true => exact Ev.t rfl (Ev.some _)
        | false => exact Ev.f rfl (Ev.bindO (idx_eq (LOs_get hi)) (Ev.bind (ev_contains' h (RS.LO h i)) ((Ev.some _).cast (by simp))))
      · simp only [w64_succ (i := i) (by omega)]
        refine (ih _).cast ?_
        have e : (List.range c.Blocks.length).drop i = i :: (List.range c.Blocks.length).drop (i + 1) := by
          rw [drop_get (by simpa using hi), List.getElem_range]
        rw [e, List.any_cons]
        simp only [Bool.or_assoc]
  simpa using key false
theorem live_read {c : VFunc} {k : Nat} {r : Int} (h : Live c k r) : c.Blocks.any (rdB r) = true := by
  induction h with
  | gen hk hx =>
    rename_i k x
    refine List.any_eq_true.2 ⟨bk c k, bk_mem hk, ?_⟩
    unfold rdB
    rw [Bool.or_eq_true]
    rcases mem_gen hx with h1 | ⟨v, h1, h2⟩
    · left
      rcases mem_uni.1 h1 with h2 | h2
      · simp at h2
      · unfold er at h2
        cases he : (((bk c k).End == 2) || ((bk c k).End == 3)) with
        | true => rw [he] at h2; simp at h2; simp [h2]
        | false => rw [he] at h2; simp at h2
    · right
      exact List.any_eq_true.2 ⟨v, h1, by simpa using h2⟩
  | thru _ _ _ _ ih => exact ih
theorem pure7 (l : List Int) (a b : Int) (_ : lenOk 8 l ∧ ∀ x, x ∈ l → I64 x) (_ : I64 a) (_ : I64 b) : ∃ K, law33_LivenessLive K l a b = some true := by
  refine Ev.fst ?_
  unfold law33_LivenessLive
  refine ev_head fun p c hc => ?_
  have h := hc.vd
  obtain ⟨r, e, r0, r1⟩ := pick_ok b (m := c.Regs) (by have := hc.hr; have := hc.p0; omega) (by have := h.h.r1; omega)
  refine Ev.bindO e (Ev.bind (Ev.loop (live_l1 h r)) (Ev.bind (ev_pblocks h) (Ev.bind (Ev.loop (live_l3 h r)) (Ev.bind (Ev.t ?_ (Ev.bind ev_ex3 (Ev.some _))) (Ev.some _)))))
  rw [Bool.and_eq_true]
  refine ⟨?_, by simp [LIs_len]⟩
  rw [Bool.or_eq_true]
  cases hl : (List.range c.Blocks.length).any (fun k => (LI c k).contains r || (LO c k).contains r) with
  | false => exact .inr rfl
  | true =>
    left
    obtain ⟨k, h1, h2⟩ := List.any_eq_true.1 hl
    rw [Bool.or_eq_true] at h2
    rcases h2 with h2 | h2
    · exact live_read ((mem_LI h).1 (by simpa using h2))
    · have h2 : r ∈ LO c k := by simpa using h2
      obtain ⟨t, _, h3⟩ := mem_U.1 h2
      exact live_read ((mem_LI h).1 h3)
end Go.Proofs.YtocfnpnnbmicmaaDoor.Tc
