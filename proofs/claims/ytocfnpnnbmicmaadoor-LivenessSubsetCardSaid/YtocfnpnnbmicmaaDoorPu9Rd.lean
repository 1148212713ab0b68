/- LivenessSubset: the pure function answers true. -/
import Derived.Test.YtocfnpnnbmicmaaDoorP9Rd
import Derived.Test.YtocfnpnnbmicmaaDoorArgsRd
import Derived.Test.YtocfnpnnbmicmaaDoorXRd4
set_option linter.unusedVariables false
set_option linter.unusedSimpArgs false
namespace Go.Proofs.YtocfnpnnbmicmaaDoor.Tc
open Go

/-- c with block k, which returns, turned into a branch to itself or to a new block that returns. -/
def subD (c : VFunc) (k : Nat) (r : Int) : VFunc := ⟨c.Params, c.Regs, (c.Blocks ++ [(⟨[], 3, (bk c k).Reg, 0, 0⟩ : Block)]).set k ⟨(bk c k).Instrs, 2, r, (k : Int), (c.Blocks.length : Int)⟩⟩
theorem subD_len (c : VFunc) (k : Nat) (r : Int) : (subD c k r).Blocks.length = c.Blocks.length + 1 := by simp [subD]
theorem subD_self {c : VFunc} {k : Nat} (hk : k < c.Blocks.length) (r : Int) : bk (subD c k r) k = ⟨(bk c k).Instrs, 2, r, (k : Int), (c.Blocks.length : Int)⟩ := by
  unfold subD bk
  simp only [List.getD_eq_getElem?_getD]
  rw [List.getElem?_set_self (by simp; omega)]; rfl
theorem subD_old {c : VFunc} {k j : Nat} (hj : j < c.Blocks.length) (h : j ≠ k) (r : Int) : bk (subD c k r) j = bk c j := by
  unfold subD bk
  simp only [List.getD_eq_getElem?_getD]
  rw [List.getElem?_set_ne (Ne.symm h), List.getElem?_append_left hj]
theorem subD_new {c : VFunc} {k : Nat} (hk : k < c.Blocks.length) (r : Int) : bk (subD c k r) c.Blocks.length = ⟨[], 3, (bk c k).Reg, 0, 0⟩ := by
  unfold subD bk
  simp only [List.getD_eq_getElem?_getD]
  rw [List.getElem?_set_ne (by omega), List.getElem?_append_right (Nat.le_refl _)]; simp
theorem endB_mono {c d : VFunc} (hr : d.Regs = c.Regs) (hl : c.Blocks.length ≤ d.Blocks.length) {b : Block} (h : endB c b = true) : endB d b = true := by
  have hb : ∀ t, blkB c t = true → blkB d t = true := fun t ht => by have := blkB_iff.1 ht; exact blkB_iff.2 ⟨by omega, by omega⟩
  have hg : ∀ n, regB d n = regB c n := fun n => by unfold regB; rw [hr]
  unfold endB at h ⊢
  simp only [hg]
  split
  · rename_i h1; rw [if_pos h1] at h
    simp only [Bool.and_eq_true] at h ⊢
    exact ⟨⟨hb _ h.1.1, h.1.2⟩, h.2⟩
  · rename_i h1; rw [if_neg h1] at h
    split
    · rename_i h2; rw [if_pos h2] at h
      simp only [Bool.and_eq_true] at h ⊢
      exact ⟨⟨hb _ h.1.1, hb _ h.1.2⟩, h.2⟩
    · rename_i h2; rw [if_neg h2] at h; exact h
theorem subD_vd {c : VFunc} (h : Vd c) (hl : c.Blocks.length ≤ 900) {k : Nat} (hk : k < c.Blocks.length) (he : (bk c k).End = 3) {r : Int} (r0 : 0 ≤ r) (r1 : r < c.Regs) : Vd (subD c k r) := by
  have hh := h.h
  have hreg : ∀ {n : Int}, 0 ≤ n → n < c.Regs → regB (subD c k r) n = true := fun a b => regB_iff.2 ⟨a, b⟩
  have hlen := subD_len c k r
  have hy : 0 ≤ (bk c k).Reg ∧ (bk c k).Reg < c.Regs := (h.e hk).e _ (by simp [er, he])
  have cases : ∀ j, j < (subD c k r).Blocks.length → (j = k) ∨ (j < c.Blocks.length ∧ j ≠ k) ∨ j = c.Blocks.length := fun j hj => by omega
  refine ⟨validB_iff.2 ⟨headV_iff.2 ⟨hh.p0, hh.p1, hh.r0, hh.r1, by omega, by omega⟩, fun b hb => ?_⟩, fun b hb => ?_⟩
  · obtain ⟨j, hj, rfl⟩ := mem_bk hb
    rcases cases j hj with q | ⟨q, q2⟩ | q
    · subst q
      rw [subD_self hk]
      refine ⟨fun v hv => ((validB_iff.1 h.v).2 _ (bk_mem hk)).1 v hv, ?_⟩
      show ((blkB (subD c j r) (j : Int) && blkB (subD c j r) (c.Blocks.length : Int)) && regB (subD c j r) r) = true
      rw [hreg r0 r1, blkB_iff.2 ⟨by omega, by omega⟩, blkB_iff.2 ⟨by omega, by omega⟩]; rfl
    · rw [subD_old q q2]
      have := (validB_iff.1 h.v).2 _ (bk_mem q)
      exact ⟨fun v hv => this.1 v hv, endB_mono (c := c) (d := subD c k r) rfl (by omega) this.2⟩
    · subst q
      rw [subD_new hk]
      refine ⟨fun v hv => by simp at hv, ?_⟩
      show ((regB (subD c k r) (bk c k).Reg && ((0 : Int) == 0)) && ((0 : Int) == 0)) = true
      rw [hreg hy.1 hy.2]; rfl
  · obtain ⟨j, hj, rfl⟩ := mem_bk hb
    rcases cases j hj with q | ⟨q, q2⟩ | q
    · subst q; rw [subD_self hk]; exact h.len hk
    · rw [subD_old q q2]; exact h.len q
    · subst q; rw [subD_new hk]; simp
theorem foldr_mono {vs : List VInstr} {l m : List Int} (h : ∀ x, x ∈ l → x ∈ m) {x : Int} (hx : x ∈ vs.foldr tr l) : x ∈ vs.foldr tr m := by
  induction vs generalizing x with
  | nil => exact h x hx
  | cons v vs ih =>
    rcases mem_tr.1 hx with ⟨h1, h2⟩ | h1
    · exact mem_tr.2 (.inl ⟨ih h1, h2⟩)
    · exact mem_tr.2 (.inr h1)
theorem subD_live {c : VFunc} (h : Vd c) {k : Nat} (hk : k < c.Blocks.length) (he : (bk c k).End = 3) {r : Int} {j : Nat} {x : Int} (hl : Live c j x) : Live (subD c k r) j x := by
  have hlen := subD_len c k r
  induction hl with
  | gen hj hx =>
    rename_i j x
    by_cases e : j = k
    · subst e
      have her : er (bk c j) = [(bk c j).Reg] := by simp [er, he]
      unfold blkIn at hx
      rw [her] at hx
      have hx2 : x ∈ (bk c j).Instrs.foldr tr (uni [(bk c j).Reg] []) := hx
      rcases (mem_foldr (bk c j).Instrs).1 hx2 with h1 | ⟨h1, h2⟩
      · refine .gen (by omega) ?_
        rw [subD_self hk]
        exact foldr_mono (fun y hy => by simp [uni] at hy) h1
      · have h1 := List.mem_singleton.1 h1
        subst h1
        refine .thru (t := (c.Blocks.length : Int)) (by omega) (by rw [subD_self hk]; exact h2) ?_ (.gen ?_ ?_)
        · rw [subD_self hk]
          show (c.Blocks.length : Int) ∈ ins [(j : Int)] (c.Blocks.length : Int)
          exact mem_ins.2 (.inl rfl)
        · rw [Int.toNat_natCast]; omega
        · rw [Int.toNat_natCast, subD_new hk]
          show (bk c j).Reg ∈ uni [] [(bk c j).Reg]
          exact mem_uni.2 (.inr (by simp))
    · refine .gen (by omega) ?_
      rw [subD_old hj e]; exact hx
  | thru hj hw hs hl ih =>
    rename_i j x t
    by_cases e : j = k
    · subst e
      simp [su, he] at hs
    · refine .thru (t := t) (by omega) ?_ ?_ ih
      · rw [subD_old hj e]; exact hw
      · rw [subD_old hj e]; exact hs
theorem sub_l1 {c d : VFunc} (h : Vd c) (hd : Vd d) (hl : c.Blocks.length ≤ d.Blocks.length) (hs : ∀ j x, Live c j x → Live d j x) : Ev (fun K n => law33_LivenessSubset_l1 K (LIs c, LOs c) (LIs d, LOs d) n 0) (.inl ()) := by
  have hb := h.h.b1
  have key : Ev (fun K n => law33_LivenessSubset_l1 K (LIs c, LOs c) (LIs d, LOs d) n ((0 : Nat) : Int)) (.inl ()) := by
    refine upto (P := fun i => Ev (fun K n => law33_LivenessSubset_l1 K (LIs c, LOs c) (LIs d, LOs d) n (i : Int)) (.inl ())) (n := c.Blocks.length) ?_ fun i hi ih => ?_
    · exact Ev.step (fun K k => rfl) (Ev.f (by simp [LIs_len]) (Ev.inn ()))
    · have h1 := (RS.LI h i).len h
      have h2 := (RS.LI hd i).len hd
      refine Ev.step (fun K k => rfl) (Ev.t (by simp [LIs_len]; omega) (Ev.bindO (idx_eq (LIs_get hi)) (Ev.bindO (idx_eq (LIs_get (by omega))) (Ev.bind (ev_minus (by unfold Sm; omega) (by unfold Sm; omega)) (Ev.f ?_ ?_)))))
      · have : mns (LI c i) (LI d i) = [] := List.eq_nil_iff_forall_not_mem.2 fun x hx => by
          have h3 := mem_mns.1 hx
          exact h3.2 ((mem_LI hd).2 (hs i x ((mem_LI h).1 h3.1)))
        rw [this]; simp
      · simp only [w64_succ (i := i) (by omega)]; exact ih
  simpa using key
theorem pure9 (l : List Int) (a b r : Int) (_ : lenOk 8 l ∧ ∀ x, x ∈ l → I64 x) (_ : I64 a) (_ : I64 b) (_ : I64 r) : ∃ K, law33_LivenessSubset K l a b r = some true := by
  refine Ev.fst ?_
  unfold law33_LivenessSubset
  refine ev_head fun p c hc => ?_
  have h := hc.vd
  have hl := hc.len
  obtain ⟨k', e, k0, k1⟩ := pick_ok b (m := (c.Blocks.length : Int)) (by omega) (by omega)
  obtain ⟨k, rfl⟩ : ∃ k : Nat, k' = (k : Int) := ⟨k'.toNat, by omega⟩
  have hk : k < c.Blocks.length := by omega
  refine Ev.bindO (app_eq (by simp; omega) (by simp; omega)) (Ev.bindO e (Ev.bindO (bk_idx hk) ?_))
  by_cases he : (bk c k).End = 3
  · obtain ⟨g, e2, g0, g1⟩ := pick_ok r (m := c.Regs) (by have := hc.hr; have := hc.p0; omega) (by have := h.h.r1; omega)
    have hset : ∀ (bs : List Block) (b : Block), bs.length = c.Blocks.length + 1 → idx (bs.set (k : Int).toNat b) (k : Int) = some b := fun bs b hbs => idx_eq (List.getElem?_set_self (by rw [hbs, Int.toNat_natCast]; omega))
    have hd := subD_vd h (by omega) hk he g0 g1
    have hx : idx (c.Blocks ++ [(⟨[], 3, (bk c k).Reg, 0, 0⟩ : Block)]) (k : Int) = some (bk c k) := idx_eq (by rw [List.getElem?_append_left hk]; exact bk_get hk)
    refine Ev.f (by simp [he]) (Ev.bindO (app_eq (by simp; omega) (by simp; omega)) (Ev.bindO e2 (Ev.bindO (x := bk c k) hx (Ev.bindO (hset _ _ (by simp)) (Ev.bindO (hset _ _ (by simp)) (Ev.bindO (hset _ _ (by simp)) ?_))))))
    simp only [List.set_set, Int.toNat_natCast, List.nil_append]
    have hdd : (⟨c.Params, c.Regs, (c.Blocks ++ [(⟨[], 3, (bk c k).Reg, 0, 0⟩ : Block)]).set k ⟨(bk c k).Instrs, 2, g, (k : Int), (c.Blocks.length : Int)⟩⟩ : VFunc) = subD c k g := rfl
    refine Ev.bind (ev_pblocks h) (Ev.bind (x := (LIs (subD c k g), LOs (subD c k g))) (ev_pblocks hd) (Ev.f ?_ (Ev.sql (Ev.loop (sub_l1 h hd (by rw [subD_len]; omega) fun j x hj => subD_live h hk he hj)) (Ev.bind ev_ex3 (Ev.some _)))))
    rw [Bool.or_eq_false_iff]
    exact ⟨by simp [LIs_len], by simp [LIs_len, subD_len]⟩
  · exact Ev.t (by simpa using he) (Ev.bind ev_ex3 (Ev.some _))
end Go.Proofs.YtocfnpnnbmicmaaDoor.Tc
