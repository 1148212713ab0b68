/- The register allocator's lists, its points, and its interference graph (program). -/
import Derived.Test.YtocfnpnnbmicmaaDoorP9Re
set_option linter.unusedVariables false
set_option linter.unusedSimpArgs false
namespace Go.Proofs.YtocfnpnnbmicmaaDoor.Tc
open Go

/-- A loop over a list that folds. -/
theorem ev_fold {α A S R : Type} (l : List α) (F : Nat → Nat → Int → S → Option R) (fin : S → R) (g : A → α → A) (Rp : A → S → Prop)
    (hend : ∀ s, Ev (fun K k => F K k (l.length : Int) s) (fin s))
    (hstep : ∀ (i : Nat) (x : α) (a : A) (s : S), l[i]? = some x → i < l.length → Rp a s → ∃ s', Rp (g a x) s' ∧ ∀ r, Ev (fun K k => F K k ((i + 1 : Nat) : Int) s') r → Ev (fun K k => F K k (i : Int) s) r) :
    ∀ a s, Rp a s → ∃ s', Rp (l.foldl g a) s' ∧ Ev (fun K k => F K k 0 s) (fin s') := by
  have key : ∀ n i, i + n = l.length → ∀ a s, Rp a s → ∃ s', Rp ((l.drop i).foldl g a) s' ∧ Ev (fun K k => F K k (i : Int) s) (fin s') := by
    intro n
    induction n with
    | zero =>
      intro i hi a s h
      have : i = l.length := by omega
      subst this
      exact ⟨s, by rw [List.drop_length]; exact h, hend s⟩
    | succ n ih =>
      intro i hi a s h
      have hlt : i < l.length := by omega
      obtain ⟨s1, h1, h2⟩ := hstep i l[i] a s (List.getElem?_eq_getElem hlt) hlt h
      obtain ⟨s2, h3, h4⟩ := ih (i + 1) (by omega) _ s1 h1
      exact ⟨s2, by rw [drop_get hlt, List.foldl_cons]; exact h3, h2 _ h4⟩
  intro a s h
  have := key l.length 0 (by omega) a s h
  simpa using this
theorem tw_mem {l : List Int} (h : Srt l) (x : Int) : l[tw l x]? = some x ↔ x ∈ l := by
  induction l with
  | nil => simp [tw]
  | cons y l ih =>
    have h1 := List.pairwise_cons.1 h
    by_cases hy : y < x
    · have e : tw (y :: l) x = tw l x + 1 := by simp [tw, List.takeWhile_cons, hy]
      rw [e, List.getElem?_cons_succ, ih h1.2, List.mem_cons]
      constructor
      · exact .inr
      · rintro (q | q)
        · omega
        · exact q
    · have e : tw (y :: l) x = 0 := by simp [tw, List.takeWhile_cons, hy]
      rw [e, List.mem_cons]
      simp only [List.getElem?_cons_zero, Option.some.injEq]
      constructor
      · exact fun q => .inl q.symm
      · rintro (q | q)
        · exact q.symm
        · have := h1.1 x q; omega
theorem tw_lt {l : List Int} (h : Srt l) {m : Nat} (hm : m < l.length) (x : Int) : l[m] < x ↔ m < tw l x := by
  constructor
  · intro q
    rcases Nat.lt_or_ge m (tw l x) with z | z
    · exact z
    · have := tw_ge h z (List.getElem?_eq_getElem hm); omega
  · intro q
    obtain ⟨y, h1, h2⟩ := tw_get q
    rw [List.getElem?_eq_getElem hm] at h1
    rw [Option.some.inj h1]; exact h2
theorem pcontains_l1 {l : List Int} {x : Int} (h : Srt l) (hl : l.length ≤ 17592186044000) : ∀ (n lo hi : Nat), hi - lo ≤ n → lo ≤ tw l x → tw l x ≤ hi → hi ≤ l.length → Ev (fun K k => regalloc_contains_l1 K l x k ((lo : Int), (hi : Int))) ((tw l x : Nat) : Int) := by
  intro n
  induction n with
  | zero =>
    intro lo hi h1 h2 h3 h4
    refine Ev.step (fun K k => rfl) (Ev.f (by simp; omega) ((Ev.some _).cast ?_))
    show (lo : Int) = _
    omega
  | succ n ih =>
    intro lo hi h1 h2 h3 h4
    rcases Nat.lt_or_ge lo hi with q | q
    · have hm : (lo + hi) / 2 < l.length := by omega
      have e1 : w64 (Int.tdiv (w64 ((lo : Int) + (hi : Int))) 2) = (((lo + hi) / 2 : Nat) : Int) := by
        rw [w64_id (n := (lo : Int) + hi) (by omega) (by omega), Int.tdiv_eq_ediv_of_nonneg (by omega), w64_id (by omega) (by omega)]; omega
      have e2 : w64 ((((lo + hi) / 2 : Nat) : Int) + 1) = (((lo + hi) / 2 + 1 : Nat) : Int) := w64_succ (by omega)
      refine Ev.step (fun K k => rfl) (Ev.t (by simp; omega) ?_)
      simp only [e1, e2]
      refine Ev.bindO (idx_get hm) (Ev.cnd (fun hc => ?_) (fun hc => ?_))
      · have := (tw_lt h hm x).1 (of_decide_eq_true hc)
        exact ih _ hi (by omega) (by omega) h3 h4
      · have : ¬ (lo + hi) / 2 < tw l x := fun z => of_decide_eq_false hc ((tw_lt h hm x).2 z)
        exact ih lo _ (by omega) h2 (by omega) (by omega)
    · refine Ev.step (fun K k => rfl) (Ev.f (by simp; omega) ((Ev.some _).cast ?_))
      show (lo : Int) = _
      omega
theorem ev_pcontains {l : List Int} {x : Int} (h : Srt l) (hl : l.length ≤ 17592186044000) : Ev (fun K _ => regalloc_contains K l x) (l.contains x) := by
  have ht := tw_le l x
  unfold regalloc_contains
  refine Ev.bind (Ev.loop (pcontains_l1 h hl l.length 0 l.length (by omega) (by omega) ht (Nat.le_refl _))) (Ev.bind (x := l.contains x) ?_ (Ev.some _))
  have hm := tw_mem h x
  refine Ev.cnd (fun hc => ?_) (fun hc => ?_)
  · have hlt : tw l x < l.length := by have := of_decide_eq_true hc; omega
    refine Ev.bindO (idx_get hlt) ((Ev.some _).cast ?_)
    rw [List.getElem?_eq_getElem hlt, Option.some.injEq] at hm
    rw [Bool.eq_iff_iff, beq_iff_eq, hm]; simp
  · have hge : l.length ≤ tw l x := by have := of_decide_eq_false hc; omega
    rw [List.getElem?_eq_none hge] at hm
    refine (Ev.some _).cast ?_
    symm
    rw [Bool.eq_false_iff]
    intro hcc
    have := hm.2 (by simpa using hcc)
    cases this
theorem ins_mem {l : List Int} (h : Srt l) {x : Int} (hx : x ∈ l) : ins l x = l := by
  rw [ins_tw, if_pos ((tw_mem h x).2 hx)]
theorem ev_pinsert {l : List Int} {x : Int} (h : Srt l) (hl : l.length ≤ 17592186000) : Ev (fun K _ => regalloc_insert K l x) (ins l x) := by
  have ht := tw_le l x
  unfold regalloc_insert
  refine Ev.bind (ev_pcontains h (by omega)) (Ev.cnd (fun hc => ?_) (fun hc => ?_))
  · exact (Ev.some _).cast (ins_mem h (by simpa using hc)).symm
  · have loop : ∀ n i, i + n = tw l x → Ev (fun K k => regalloc_insert_l1 K l x k (i : Int)) ((tw l x : Nat) : Int) := by
      intro n
      induction n with
      | zero =>
        intro i hi
        refine Ev.step (fun K k => rfl) (Ev.bind (x := false) ?_ (Ev.f rfl ((Ev.some _).cast (by omega))))
        refine Ev.cnd (fun hc => ?_) (fun hc => Ev.some _)
        have hlt : i < l.length := by have := of_decide_eq_true hc; omega
        refine Ev.bindO (idx_get hlt) ((Ev.some _).cast ?_)
        rw [decide_eq_false_iff_not, tw_lt h hlt]; omega
      | succ n ih =>
        intro i hi
        have hlt : i < l.length := by omega
        refine Ev.step (fun K k => rfl) (Ev.bind (x := true) (Ev.t (by simp; omega) (Ev.bindO (idx_get hlt) ((Ev.some _).cast ?_))) (Ev.t rfl ?_))
        · rw [decide_eq_true_iff, tw_lt h hlt]; omega
        · rw [w64_succ (by omega)]; exact ih (i + 1) (by omega)
    have hne : l[tw l x]? ≠ some x := fun e => by
      have := (tw_mem h x).1 e
      simp [this] at hc
    refine Ev.bind (Ev.loop (loop (tw l x) 0 (by omega))) (Ev.bindO (subHi_eq ht) (Ev.bindO (app_nil (by simp; omega) (by simp; omega)) (Ev.bindO (app_eq (by simp; omega) (by simp; omega)) (Ev.bindO (subLo_eq ht) (Ev.bindO (app_eq (by simp; omega) (by simp; omega)) ((Ev.some _).cast ?_))))))
    rw [ins_tw, if_neg hne]
theorem ev_without {l : List Int} {x : Int} (hl : l.length ≤ 17592186000) : Ev (fun K _ => regalloc_without K l x) (mns l [x]) := by
  have loop : ∀ (m p s : List Int), l = p ++ m → s.length + m.length ≤ 17592186000 → Ev (fun K k => regalloc_without_l1 K l x k ((p.length : Int), s)) (s ++ mns m [x]) := by
    intro m
    induction m with
    | nil =>
      intro p s h _
      refine Ev.step (fun K k => rfl) (Ev.f ?_ ((Ev.some _).cast (by simp [mns])))
      subst h; simp
    | cons y m ih =>
      intro p s h hs
      have hg : idx l (p.length : Int) = some y := idx_eq (by subst h; simp)
      have hlt : (p.length : Int) < (l.length : Int) := by subst h; simp; omega
      have hw : w64 ((p.length : Int) + 1) = ((p ++ [y]).length : Int) := by
        rw [w64_id (by omega) (by omega)]; simp
      simp only [List.length_cons] at hs
      refine Ev.step (fun K k => rfl) (Ev.t (by simpa using hlt) (Ev.bind (x := if y = x then s else s ++ [y]) (Ev.bindO hg ?_) ?_))
      · by_cases e : y = x
        · rw [if_pos e]; exact Ev.f (by simp [e]) (Ev.some _)
        · rw [if_neg e]; exact Ev.t (by simp [e]) (Ev.bindO (app_eq (by simp; omega) (by simp; omega)) (Ev.some _))
      · simp only [hw]
        by_cases e : y = x
        · rw [if_pos e]
          refine (ih (p ++ [y]) s (by subst h; simp) (by omega)).cast ?_
          simp [mns, e]
        · rw [if_neg e]
          refine (ih (p ++ [y]) (s ++ [y]) (by subst h; simp) (by simp; omega)).cast ?_
          simp [mns, e]
  unfold regalloc_without
  exact Ev.bind (Ev.loop (loop l [] [] rfl (by simpa using hl))) ((Ev.some _).cast (by simp))

/-! ### points -/
theorem pts_l3 {c : VFunc} (h : Vd c) {r : List Int} (hr : r.length ≤ 3000) {l : List Int} (hl : RS c l) : Ev (fun K k => regalloc_points_l3 K r k (l, 0)) (mns l r) := by
  obtain ⟨s', h1, h2⟩ := ev_fold r (fun K k i s => regalloc_points_l3 K r k (s, i)) id (fun s n => mns s [n]) (fun a s => s = a ∧ RS c a)
    (fun s => Ev.step (fun K k => rfl) (Ev.f (by simp) (Ev.some _)))
    (fun i x a s hx hi hs => by
      obtain ⟨rfl, hs⟩ := hs
      have hlen := hs.len h
      refine ⟨mns s [x], ⟨rfl, hs.mns _⟩, fun r' hr' => Ev.step (fun K k => rfl) (Ev.t (by simpa using hi) (Ev.bind (x := mns s [x]) (Ev.bindO (idx_eq hx) (Ev.bind (ev_pcontains (l := s) hs.s (by omega)) ?_)) ?_))⟩
      · refine Ev.cnd (fun hc => Ev.bind (ev_without (l := s) (by omega)) (Ev.some _)) (fun hc => (Ev.some _).cast ?_)
        have : x ∉ s := by simpa using hc
        unfold mns
        symm
        rw [List.filter_eq_self]
        intro y hy
        have : y ≠ x := fun e => this (e ▸ hy)
        simp [this]
      · simp only [w64_succ (i := i) (by omega)]; exact hr') l l ⟨rfl, hl⟩
  have e : r.foldl (fun s n => mns s [n]) l = mns l r := by
    clear h1 h2 hl
    induction r generalizing l with
    | nil => exact (by simp [mns] : mns l [] = l).symm
    | cons y r ih =>
      rw [List.foldl_cons, ih (by simp at hr; omega)]
      unfold mns
      rw [List.filter_filter]
      congr 1; funext x
      cases hx : (x == y) <;> simp [List.contains_cons, hx, Bool.and_comm]
  rw [e] at h1
  exact h2.cast h1.1
theorem pts_l4 {c : VFunc} (h : Vd c) {r : List Int} (hr : r.length ≤ 3000) (hrr : ∀ x, x ∈ r → 0 ≤ x ∧ x < c.Regs) {l : List Int} (hl : RS c l) : Ev (fun K k => regalloc_points_l4 K r k (l, 0)) (uni l r) := by
  obtain ⟨s', h1, h2⟩ := ev_fold r (fun K k i s => regalloc_points_l4 K r k (s, i)) id ins (fun a s => s = a ∧ RS c a)
    (fun s => Ev.step (fun K k => rfl) (Ev.f (by simp) (Ev.some _)))
    (fun i x a s hx hi hs => by
      obtain ⟨rfl, hs⟩ := hs
      have hlen := hs.len h
      have hxr := hrr x (List.mem_of_getElem? hx)
      refine ⟨ins s x, ⟨rfl, srt_ins hs.s, fun y hy => by rcases mem_ins.1 hy with rfl | q; exact hxr; exact hs.r y q⟩, fun r' hr' => Ev.step (fun K k => rfl) (Ev.t (by simpa using hi) (Ev.bindO (idx_eq hx) (Ev.bind (ev_pinsert (l := s) hs.s (by omega)) ?_)))⟩
      simp only [w64_succ (i := i) (by omega)]; exact hr') l l ⟨rfl, hl⟩
  exact h2.cast h1.1
/-- Block k's points, and what is live at its end. -/
def ptF (b : Block) (o : List Int) (i : Nat) : List Int := if i ≤ b.Instrs.length then lp b o i else o
noncomputable def PT (c : VFunc) (k : Nat) : List (List Int) := (List.range (bk c k).Instrs.length.succ.succ).map (ptF (bk c k) (LO c k))
theorem PT_get {c : VFunc} {k i : Nat} (h : i ≤ (bk c k).Instrs.length) : (PT c k)[i]? = some (lp (bk c k) (LO c k) i) := by
  unfold PT
  rw [List.getElem?_map, List.getElem?_range (by omega)]
  simp [ptF, h]
theorem ptF_le {b : Block} {o : List Int} {i : Nat} (h : i ≤ b.Instrs.length) : ptF b o i = lp b o i := by simp [ptF, h]
theorem pts_l2 {c : VFunc} (h : Vd c) {k : Nat} (hk : k < c.Blocks.length) : ∀ j, j ≤ (bk c k).Instrs.length → Ev (fun K n => regalloc_points_l2 K (bk c k) n (lp (bk c k) (LO c k) j, (j : Int) - 1, fillD ((bk c k).Instrs.length + 1) (ptF (bk c k) (LO c k)) j)) (PT c k) := by
  have hlen := h.len hk
  intro j
  induction j with
  | zero =>
    intro _
    refine Ev.step (fun K k => rfl) (Ev.f (by simp) ((Ev.some _).cast ?_))
    exact fillD_zero _ _
  | succ j ih =>
    intro hj
    have hlt : j < (bk c k).Instrs.length := hj
    have hidx : ((j + 1 : Nat) : Int) - 1 = (j : Int) := by omega
    have hw2 : w64 ((j : Int) - 1) = (j : Int) - 1 := w64_id (by omega) (by omega)
    have hgv : (bk c k).Instrs[j]? = some (bk c k).Instrs[j] := List.getElem?_eq_getElem hlt
    have hv := h.i hk (List.getElem_mem hlt)
    have rs := RS.lp (h.iv hk) (h.e hk) (RS.LO h k) (j + 1)
    have hwl : (wr (bk c k).Instrs[j]).length ≤ 1 := by unfold wr; split <;> simp
    have hrl : (rd (bk c k).Instrs[j]).length ≤ 3000 := RS.len h ⟨srt_rd _, hv.r⟩
    refine Ev.step (fun K k => rfl) (Ev.t (by simp) ?_)
    simp only [hidx, hw2]
    refine Ev.bindO (idx_eq hgv) (Ev.bindO (vwrites _) (Ev.bind (Ev.loop (pts_l3 h (by omega) rs)) (Ev.bindO (idx_eq hgv) (Ev.bind (ev_vreads (by have := hv.n; omega)) (Ev.bind (Ev.loop (pts_l4 h hrl hv.r (rs.mns _))) (Ev.bindO (idx_get (i := j) (by rw [fillD_len _ (by omega)]; omega)) ?_))))))
    have e : uni (mns (lp (bk c k) (LO c k) (j + 1)) (wr (bk c k).Instrs[j])) (rd (bk c k).Instrs[j]) = lp (bk c k) (LO c k) j := (lp_step hgv).symm
    have e2 := fillD_set (n := (bk c k).Instrs.length + 1) (ptF (bk c k) (LO c k)) (show j ≤ (bk c k).Instrs.length + 1 by omega)
    rw [ptF_le (by omega)] at e2
    simp only [Int.toNat_natCast, e, e2]
    exact ih (by omega)
theorem ev_points {c : VFunc} (h : Vd c) : Ev (fun K _ => regalloc_points K c) ((List.range c.Blocks.length).map (PT c)) := by
  have hb1 := h.h.b1
  have loop : ∀ n j, j + n = c.Blocks.length → Ev (fun K k => regalloc_points_l1 K c (LIs c, LOs c) k ((j : Int), (List.range j).map (PT c))) ((List.range c.Blocks.length).map (PT c)) := by
    intro n
    induction n with
    | zero =>
      intro j hj
      have : j = c.Blocks.length := by omega
      subst this
      exact Ev.step (fun K k => rfl) (Ev.f (by simp) (Ev.some _))
    | succ n ih =>
      intro j hj
      have hk : j < c.Blocks.length := by omega
      have hlen := h.len hk
      have hw : w64 (((bk c j).Instrs.length : Int) + 2) = (((bk c j).Instrs.length + 2 : Nat) : Int) := by rw [w64_id (by omega) (by omega)]; simp
      have hw1 : w64 (((bk c j).Instrs.length : Int) + 1) = (((bk c j).Instrs.length + 1 : Nat) : Int) := w64_succ (by omega)
      have hw2 : w64 (((bk c j).Instrs.length : Int) - 1) = ((bk c j).Instrs.length : Int) - 1 := w64_id (by omega) (by omega)
      have hO := (RS.LO h j)
      have hOl := hO.len h
      have hfin : ((List.replicate ((bk c j).Instrs.length + 2) ([] : List Int)).set ((bk c j).Instrs.length + 1) (LO c j)).set (bk c j).Instrs.length (lp (bk c j) (LO c j) (bk c j).Instrs.length) = fillD ((bk c j).Instrs.length + 1) (ptF (bk c j) (LO c j)) (bk c j).Instrs.length := by
        have e1 := fillD_top ((bk c j).Instrs.length + 1) (ptF (bk c j) (LO c j))
        rw [show ptF (bk c j) (LO c j) ((bk c j).Instrs.length + 1) = LO c j by simp only [ptF]; rw [if_neg (by omega)]] at e1
        rw [e1]
        have e2 := fillD_set (n := (bk c j).Instrs.length + 1) (ptF (bk c j) (LO c j)) (show (bk c j).Instrs.length ≤ (bk c j).Instrs.length + 1 by omega)
        rw [ptF_le (Nat.le_refl _)] at e2
        exact e2
      refine Ev.step (fun K k => rfl) (Ev.t (by simp; omega) ?_)
      simp only [w64_succ (i := j) (by omega)]
      refine Ev.bindO (bk_idx hk) ?_
      simp only [hw, hw1, hw2, Int.toNat_natCast]
      refine Ev.bindO (mk_eq (by omega) (by omega)) (Ev.bindO (idx_eq (LOs_get hk)) (Ev.bindO (idx_get (i := (bk c j).Instrs.length + 1) (by simp)) (Ev.bind (x := lp (bk c j) (LO c j) (bk c j).Instrs.length) ?_ (Ev.bindO (idx_get (i := (bk c j).Instrs.length) (by simp)) ?_))))
      · rw [lp_last]
        have ee : er (bk c j) = if ((bk c j).End == 2) || ((bk c j).End == 3) then [(bk c j).Reg] else [] := rfl
        cases he : (((bk c j).End == 2) || ((bk c j).End == 3)) with
        | true =>
          rw [he] at ee
          have ee : er (bk c j) = [(bk c j).Reg] := ee
          rw [ee]
          exact Ev.t rfl (Ev.bind (ev_pinsert hO.s (by omega)) (Ev.some _))
        | false =>
          rw [he] at ee
          have ee : er (bk c j) = [] := ee
          rw [ee]
          exact Ev.f rfl (Ev.some _)
      · simp only [hfin]
        refine Ev.bind (Ev.loop (pts_l2 h hk _ (Nat.le_refl _))) (Ev.bindO (app_eq (by simp; omega) (by simp; omega)) ?_)
        have := ih (j + 1) (by omega)
        simpa only [List.range_succ, List.map_append, List.map_cons, List.map_nil] using this
  unfold regalloc_points
  exact Ev.bind (ev_pblocks h) (Ev.bind (Ev.loop (loop c.Blocks.length 0 (by omega))) (Ev.some _))
end Go.Proofs.YtocfnpnnbmicmaaDoor.Tc
